/-
  The Go functions tholelaw09_MicroRefuses: each comes to its plain function. Conditions: where the plain function is some.
-/
import Derived.Test.YtjdalhedpgiimaaW5
set_option linter.unusedVariables false
namespace Go.Proofs.Ytjdalhedpgiimaa
open Go Go.RowKit Go.Proofs.Ytjdalhedpgiimaa.Gx
set_option maxHeartbeats 4000000 in
set_option maxRecDepth 100000 in
theorem c3 (k : Nat) (L : List Nat) (w : World) (hL : ∀ b ∈ L, b < w.heap.size) (x0 : List TIns) (h0 : Value) (qh0 : RdS KTIns L w h0 x0) (x1 : Int) (x2 : Int) (x3 : Int) (r : Bool) (h : tholelaw09_MicroRefuses k x0 x1 x2 x3 = some r) : Calls Try.prog 3 #[h0, .int .i64 x1, .int .i64 x2, .int .i64 x3] w (fun e w' => ∃ v, e = .returned v ∧ v = .bool r ∧ G [] w w') := by
 refine enterF Try.func3 rfl rfl fun a0 z0 A => ?_
 have s0_0 := A 0 (h0) rfl
 have s0_1 := A 1 (.int .i64 x1) rfl
 have s0_2 := A 2 (.int .i64 x2) rfl
 have s0_3 := A 3 (.int .i64 x3) rfl
 clear A
 have c0 : Cx [] w L w := ⟨G.refl _ _, hL⟩
 unfold tholelaw09_MicroRefuses at h
 refine wp_seq ?_
 refine reg ?_
 refine s1 z0 (okAs cst) rfl fun a1 p2 s3 => ?_
 refine rN (thenN ?_)
 refine wp_seq ?_
 refine reg ?_
 obtain ⟨t4, ht5, h⟩ := Option.bind_eq_some_iff.1 h
 refine lS (oCall p2.z Try.call7 (ag0 ) (c7 k L w c0.lt  _ ht5) rfl fun v9 a6 w7 hp10 p8 sp8 => ?_)
 obtain ⟨rfl, g11⟩ := hp10
 have cx12 := c0.ca g11
 refine s1 p8.z (okAs sp8) rfl fun a13 p14 s15 => ?_
 refine rN (thenN ?_)
 refine wp_seq ?_
 refine wp_seq ?_
 refine reg ?_
 have s16 := p14.o (p8.o (p2.o s0_0 rfl) rfl) rfl
 refine s1 p14.z (okMv s16) rfl fun a17 p18 s19 => ?_
 have q20 := qh0.mono g11.t0
 refine s1 p18.z (okLenR Try.underlying22 s19 q20) rfl fun a21 p22 s23 => ?_
 refine s1 p22.z (okGt s23 cst) rfl fun a24 p25 s26 => ?_
 refine rN (thenN ?_)
 have s27 := p25.o (p22.o (p18.o s16 rfl) rfl) rfl
 have s28 := p25.o (p22.o (p18.o (p14.o (p8.o s3 rfl) rfl) rfl) rfl) rfl
 have s29 := p25.o (p22.o (p18.o s15 rfl) rfl) rfl
 have pg30 : Pg _ [8, 9, 23, 24, 25, 26] _ _ := (((((((Pg.refl z0).st p2 rfl).st p8 rfl).st p14 rfl).st p18 rfl).st p22 rfl).st p25 rfl)
 refine cnd s26 (fun hb31 => ?_) (fun hb31 => ?_)
 ·replace h := (ifP hb31).symm.trans h
  refine wp_seq ?_
  refine reg ?_
  refine s1 pg30.z (okMv s29) rfl fun a32 p33 s34 => ?_
  refine s1 p33.z (okAs s34) rfl fun a35 p36 s37 => ?_
  refine rN (thenN ?_)
  obtain rfl := Option.some.inj h
  exact wp_ret (thenR (ret1 p36.z Try.results3 (rvT s37) ⟨_, rfl, rfl, cx12.g⟩))
 replace h := (ifN hb31).symm.trans h
 refine wp_skip (thenN ?_)
 refine wp_seq ?_
 refine reg ?_
 refine lS (oBS (K := (KInt .i64)) (L := L) (xs := [1, 2, 3]) (C := [[.int .i64 1], [.int .i64 2], [.int .i64 3]]) pg30.z (pb3 cst cst cst) (bs28_3_0_1_2 1 2 3) rfl rfl (all2C rfl (all2C rfl (all2C rfl all2N))) rfl rfl fun a38 v39 w40 p41 sp41 q42 g43 f44 => ?_)
 have f45 := frN f44
 have nb46 := nbA hL cx12.g.sz (fun _ h => nilO h) f45
 have sf47 := sfA (S := []) cx12.g.sz (fun _ h => nilO h) f45
 have cx48 := cx12.ap g43 (fun _ h => nilO h) q42
 have q49 : RdS (KInt .i64) L w40 v39 [1, 2, 3] := q42.rd (fun i h => (List.mem_append_right _ h)) (fun b hb => nb46 _ hb)
 have cx50 := cx48.sub (fun i h => (List.mem_append_right _ h))
 obtain ⟨t51, ht52, h⟩ := Option.bind_eq_some_iff.1 h
 refine lS (oCall p41.z Try.call8 (ag2 sp41 cst) (c8 k L w40 [1, 2, 3] v39 2 cx50.lt sepN q49 _ ht52) rfl fun v56 a53 w54 hp57 p55 sp55 => ?_)
 obtain ⟨u58, I59, u60, I61, rfl, po62, po63, D64, f67, f68, lt65, g66⟩ := hp57
 obtain ho69 | ⟨y70, ho69⟩ := oNS t51.1
 ·rw [ho69] at po62
  obtain ⟨rfl, rfl⟩ := po62
  replace h := (omN ho69).symm.trans h
  obtain ho71 | ⟨y72, ho71⟩ := oNS t51.2
  ·rw [ho71] at po63
   obtain ⟨rfl, rfl⟩ := po63
   replace h := (omN ho71).symm.trans h
   have D73 : Sep [] L := D64
   have lt74 : ∀ b ∈ L, b < w54.heap.size := lt65
   have hs75 : ∀ i ∈ ([] : List Nat), i ∈ [] ∨ w.heap.size ≤ i := memN
   have hs76 : ∀ i ∈ ([] : List Nat), i ∈ L := memN
   have t77 : Tr L w40 L w54 := G.tC g66 hs76 (fun i h => .inl h)
   have cx78 := cx50.gs g66 hs75 lt74
   refine s1 p55.z (okMv sp55) rfl fun a79 p80 s81 => ?_
   refine s1 p80.z (okExt (vs := [_, _]) s81 rfl) rfl fun a82 p83 s84 => ?_
   have s85 := p83.o s81 rfl
   refine s1 p83.z (okExt (vs := [_, _]) s85 rfl) rfl fun a86 p87 s88 => ?_
   have s89 := p87.o s84 rfl
   refine s1 p87.z (okAs s89) rfl fun a90 p91 s92 => ?_
   have s93 := p91.o s88 rfl
   refine s1 p91.z (okAs s93) rfl fun a94 p95 s96 => ?_
   refine rN (thenN ?_)
   refine wp_seq ?_
   refine wp_seq ?_
   refine reg ?_
   have s97 := p95.o s92 rfl
   refine s1 p95.z (okMv s97) rfl fun a98 p99 s100 => ?_
   refine s1 p99.z (okNEq Try.underlying24 s100 cst) rfl fun a101 p102 s103 => ?_
   refine rN (thenN ?_)
   refine wp_cond_true s103 ?_
   refine wp_seq ?_
   refine reg ?_
   refine s1 p102.z (okAs cst) rfl fun a104 p105 s106 => ?_
   refine rN (thenN ?_)
   obtain rfl := Option.some.inj h
   exact wp_ret (thenR (ret1 p105.z Try.results3 (rvT s106) ⟨_, rfl, rfl, cx78.g⟩))
  ·rw [ho71] at po63
   obtain ⟨oby72, hpy72_0, rfl, rfl, q107, q108⟩ := po63
   replace h := (omS ho71).symm.trans h
   have D109 : Sep [[oby72], ownB hpy72_0] L := D64
   have lt110 : ∀ b ∈ (oby72 :: (ownB hpy72_0 ++ L)), b < w54.heap.size := lt65
   have hs111 : ∀ i ∈ ([] : List Nat), i ∈ [] ∨ w.heap.size ≤ i := memN
   have hs112 : ∀ i ∈ ([] : List Nat), i ∈ L := memN
   have t113 : Tr L w40 (oby72 :: (ownB hpy72_0 ++ L)) w54 := G.tC g66 hs112 (memC (.inr (f68 _ (List.mem_append_left _ (.head _)))) (memA (fun x hx => .inr ((fun _ h => f68 _ (List.mem_append_right _ (List.mem_append_left _ h))) x hx)) (fun i h => .inl h)))
   have cx114 := cx50.gs g66 hs111 lt110
   have q115 : OwnS KTPark 59 (oby72 :: (ownB hpy72_0 ++ L)) w54 hpy72_0 y72.l := q108
   refine s1 p55.z (okMv sp55) rfl fun a116 p117 s118 => ?_
   refine s1 p117.z (okExt (vs := [_, _]) s118 rfl) rfl fun a119 p120 s121 => ?_
   have s122 := p120.o s118 rfl
   refine s1 p120.z (okExt (vs := [_, _]) s122 rfl) rfl fun a123 p124 s125 => ?_
   have s126 := p124.o s121 rfl
   refine s1 p124.z (okAs s126) rfl fun a127 p128 s129 => ?_
   have s130 := p128.o s125 rfl
   refine s1 p128.z (okAs s130) rfl fun a131 p132 s133 => ?_
   refine rN (thenN ?_)
   refine wp_seq ?_
   refine wp_seq ?_
   refine reg ?_
   have s134 := p132.o s129 rfl
   refine s1 p132.z (okMv s134) rfl fun a135 p136 s137 => ?_
   refine s1 p136.z (okNEq Try.underlying24 s137 cst) rfl fun a138 p139 s140 => ?_
   refine rN (thenN ?_)
   refine wp_cond_true s140 ?_
   refine wp_seq ?_
   refine reg ?_
   refine s1 p139.z (okAs cst) rfl fun a141 p142 s143 => ?_
   refine rN (thenN ?_)
   obtain rfl := Option.some.inj h
   exact wp_ret (thenR (ret1 p142.z Try.results3 (rvT s143) ⟨_, rfl, rfl, cx114.g⟩))
 ·rw [ho69] at po62
  obtain ⟨oby70, hpy70_0, rfl, rfl, q144, q145⟩ := po62
  replace h := (omS ho69).symm.trans h
  obtain ho146 | ⟨y147, ho146⟩ := oNS t51.2
  ·rw [ho146] at po63
   obtain ⟨rfl, rfl⟩ := po63
   replace h := (omN ho146).symm.trans h
   have D148 : Sep [[oby70], ownB hpy70_0] L := D64
   have lt149 : ∀ b ∈ (oby70 :: (ownB hpy70_0 ++ L)), b < w54.heap.size := lt65
   have hs150 : ∀ i ∈ ([] : List Nat), i ∈ [] ∨ w.heap.size ≤ i := memN
   have hs151 : ∀ i ∈ ([] : List Nat), i ∈ L := memN
   have t152 : Tr L w40 (oby70 :: (ownB hpy70_0 ++ L)) w54 := G.tC g66 hs151 (memC (.inr (f67 _ (List.mem_append_left _ (.head _)))) (memA (fun x hx => .inr ((fun _ h => f67 _ (List.mem_append_right _ (List.mem_append_left _ h))) x hx)) (fun i h => .inl h)))
   have cx153 := cx50.gs g66 hs150 lt149
   have q154 : OwnS (KInt .i64) 2 (oby70 :: (ownB hpy70_0 ++ L)) w54 hpy70_0 y70.l := q145
   refine s1 p55.z (okMv sp55) rfl fun a155 p156 s157 => ?_
   refine s1 p156.z (okExt (vs := [_, _]) s157 rfl) rfl fun a158 p159 s160 => ?_
   have s161 := p159.o s157 rfl
   refine s1 p159.z (okExt (vs := [_, _]) s161 rfl) rfl fun a162 p163 s164 => ?_
   have s165 := p163.o s160 rfl
   refine s1 p163.z (okAs s165) rfl fun a166 p167 s168 => ?_
   have s169 := p167.o s164 rfl
   refine s1 p167.z (okAs s169) rfl fun a170 p171 s172 => ?_
   refine rN (thenN ?_)
   refine wp_seq ?_
   refine wp_seq ?_
   refine reg ?_
   have s173 := p171.o s168 rfl
   refine s1 p171.z (okMv s173) rfl fun a174 p175 s176 => ?_
   refine s1 p175.z (okPEq Try.underlying24 s176 cst) rfl fun a177 p178 s179 => ?_
   refine rN (thenN ?_)
   refine wp_cond_false s179 ?_
   refine wp_skip (thenN ?_)
   refine wp_seq ?_
   refine reg ?_
   have s180 := p178.o (p175.o (p171.o (p167.o (p163.o (p159.o (p156.o (p55.o (p41.o (pg30.o s0_2 rfl) rfl) rfl) rfl) rfl) rfl) rfl) rfl) rfl) rfl
   refine s1 p178.z (okMv s180) rfl fun a181 p182 s183 => ?_
   obtain ⟨t184, ht185, h⟩ := Option.bind_eq_some_iff.1 h
   refine lS (oCall p182.z Try.call9 (ag2 s183 cst) (c9 (oby70 :: (ownB hpy70_0 ++ L)) w54 cx153.lt _ _ _ ht185) rfl fun v189 a186 w187 hp190 p188 sp188 => ?_)
   obtain ⟨rfl, g191⟩ := hp190
   have cx192 := cx153.ca g191
   refine s1 p188.z (okAs sp188) rfl fun a193 p194 s195 => ?_
   refine rN (thenN ?_)
   refine wp_seq ?_
   refine reg ?_
   refine s1 p194.z (okMv s195) rfl fun a196 p197 s198 => ?_
   obtain ⟨z199, hz200, h⟩ := Option.bind_eq_some_iff.1 h
   have m201 := q144.g0 g191
   have q202 := q154.t0 g191.t0 g191
   refine lS (oMk (K := KTFrame) (L := (oby70 :: (ownB hpy70_0 ++ L))) (x0 := (⟨0, Arr16.zero⟩ : TFrame)) Try.underlying30 ti66 rfl zv66 (fun _ => rfl) p197.z s198 s198 hz200 rfl fun a203 v204 w205 p206 sp206 q207 g208 f209 => ?_)
   have f210 := frN f209
   have nb211 := nbA hL cx192.g.sz (fun _ h => nilO h) f210
   have sf212 := sfA (S := []) cx192.g.sz (fun _ h => nilO h) f210
   have n213 := m201.no (fun h => nilO h) f210
   have n214 := q202.dj (fun _ _ h => nilO h) f210
   have cx215 := cx192.ap g208 (fun _ h => nilO h) q207
   refine s1 p206.z (okAs sp206) rfl fun a216 p217 s218 => ?_
   refine rN (thenN ?_)
   refine wp_seq ?_
   refine reg ?_
   have s219 := p217.o (p206.o (p197.o (p194.o (p188.o (p182.o (p178.o (p175.o s173 rfl) rfl) rfl) rfl) rfl) rfl) rfl) rfl
   refine s1 p217.z (okMv s219) rfl fun a220 p221 s222 => ?_
   refine s1 p221.z (okAs s222) rfl fun a223 p224 s225 => ?_
   refine rN (thenN ?_)
   refine wp_seq ?_
   refine reg ?_
   have s226 := p224.o (p221.o (p217.o (p206.o (p197.o (p194.o (p188.o (p182.o (p178.o (p175.o s172 rfl) rfl) rfl) rfl) rfl) rfl) rfl) rfl) rfl) rfl
   refine s1 p224.z (okMv s226) rfl fun a227 p228 s229 => ?_
   refine s1 p228.z (okAs s229) rfl fun a230 p231 s232 => ?_
   refine rN (thenN ?_)
   refine wp_seq ?_
   refine reg ?_
   have s233 := p231.o (p228.o (p224.o (p221.o (p217.o (p206.o (p197.o (p194.o (p188.o (p182.o (p178.o (p175.o (p171.o (p167.o (p163.o (p159.o (p156.o (p55.o (p41.o (pg30.o s0_3 rfl) rfl) rfl) rfl) rfl) rfl) rfl) rfl) rfl) rfl) rfl) rfl) rfl) rfl) rfl) rfl) rfl) rfl) rfl) rfl
   refine s1 p231.z (okMv s233) rfl fun a234 p235 s236 => ?_
   obtain ⟨t237, ht238, h⟩ := Option.bind_eq_some_iff.1 h
   refine lS (oCall p235.z Try.call9 (ag2 s236 cst) (c9 (ownB v204 ++ (oby70 :: (ownB hpy70_0 ++ L))) w205 cx215.lt _ _ _ ht238) rfl fun v242 a239 w240 hp243 p241 sp241 => ?_)
   obtain ⟨rfl, g244⟩ := hp243
   have cx245 := cx215.ca g244
   refine s1 p241.z (okAs sp241) rfl fun a246 p247 s248 => ?_
   refine rN (thenN ?_)
   refine wp_seq ?_
   refine wp_seq ?_
   refine reg ?_
   refine s1 p247.z (okMv s248) rfl fun a249 p250 s251 => ?_
   refine s1 p250.z (okEq s251 cst) rfl fun a252 p253 s254 => ?_
   refine rN (thenN ?_)
   have s255 := p253.o (p250.o (p247.o (p241.o (p235.o (p231.o (p228.o (p224.o (p221.o s219 rfl) rfl) rfl) rfl) rfl) rfl) rfl) rfl) rfl
   have s256 := p253.o (p250.o (p247.o (p241.o (p235.o (p231.o (p228.o (p224.o (p221.o (p217.o (p206.o (p197.o s195 rfl) rfl) rfl) rfl) rfl) rfl) rfl) rfl) rfl) rfl) rfl) rfl
   have s257 := p253.o (p250.o (p247.o (p241.o (p235.o (p231.o (p228.o (p224.o (p221.o s218 rfl) rfl) rfl) rfl) rfl) rfl) rfl) rfl) rfl
   have s258 := p253.o (p250.o (p247.o (p241.o (p235.o (p231.o (p228.o s225 rfl) rfl) rfl) rfl) rfl) rfl) rfl
   have s259 := p253.o (p250.o (p247.o (p241.o (p235.o s232 rfl) rfl) rfl) rfl) rfl
   have s260 := p253.o (p250.o s248 rfl) rfl
   have pg261 : Pg _ [10, 11, 12, 13, 14, 15, 16, 28, 29, 30, 31, 32, 33, 34, 35, 36, 37, 38, 39, 40, 41, 42, 43, 44] _ _ := (((((((((((((((((((((((((Pg.refl pg30.z).st p41 rfl).st p55 rfl).st p156 rfl).st p159 rfl).st p163 rfl).st p167 rfl).st p171 rfl).st p175 rfl).st p178 rfl).st p182 rfl).st p188 rfl).st p194 rfl).st p197 rfl).st p206 rfl).st p217 rfl).st p221 rfl).st p224 rfl).st p228 rfl).st p231 rfl).st p235 rfl).st p241 rfl).st p247 rfl).st p250 rfl).st p253 rfl)
   refine cnd s254 (fun hb262 => ?_) (fun hb262 => ?_)
   ·replace h := (ifP hb262).symm.trans h
    refine reg ?_
    refine s1 pg261.z (okAs cst) rfl fun a263 p264 s265 => ?_
    refine rN (thenN ?_)
    refine wp_seq ?_
    refine wp_seq ?_
    refine reg ?_
    have s266 := p264.o s260 rfl
    refine s1 p264.z (okMv s266) rfl fun a267 p268 s269 => ?_
    refine s1 p268.z (okEq s269 cst) rfl fun a270 p271 s272 => ?_
    refine rN (thenN ?_)
    have s273 := p271.o (p268.o s265 rfl) rfl
    have s274 := p271.o (p268.o s266 rfl) rfl
    have pg275 : Pg _ [14, 45, 46] _ _ := ((((Pg.refl pg261.z).st p264 rfl).st p268 rfl).st p271 rfl)
    refine cnd s272 (fun hb276 => ?_) (fun hb276 => ?_)
    ·replace h := (ifP hb276).symm.trans h
     refine reg ?_
     refine s1 pg275.z (okAs cst) rfl fun a277 p278 s279 => ?_
     refine rN (thenN ?_)
     refine wp_seq ?_
     refine reg ?_
     have s280 := p278.o (pg275.o (pg261.o s27 rfl) rfl) rfl
     refine s1 p278.z (okMv s280) rfl fun a281 p282 s283 => ?_
     have s284 := p282.o (p278.o s273 rfl) rfl
     refine s1 p282.z (okMv s284) rfl fun a285 p286 s287 => ?_
     have s288 := p286.o (p282.o s279 rfl) rfl
     refine s1 p286.z (okMv s288) rfl fun a289 p290 s291 => ?_
     have s292 := p290.o (p286.o (p282.o (p278.o (pg275.o (pg261.o (pg30.o s0_1 rfl) rfl) rfl) rfl) rfl) rfl) rfl
     refine s1 p290.z (okMv s292) rfl fun a293 p294 s295 => ?_
     have s296 := p294.o (p290.o (p286.o (p282.o (p278.o (pg275.o s257 rfl) rfl) rfl) rfl) rfl) rfl
     refine s1 p294.z (okMv s296) rfl fun a297 p298 s299 => ?_
     have s300 := p298.o (p294.o (p290.o (p286.o s283 rfl) rfl) rfl) rfl
     have s301 := p298.o (p294.o (p290.o s287 rfl) rfl) rfl
     have s302 := p298.o (p294.o s291 rfl) rfl
     have s303 := p298.o s295 rfl
     have q304 := q207.t0 g244.t0 g244
     have q305 : RdS KTFrame (oby70 :: (ownB hpy70_0 ++ L)) w240 v204 z199 := q304.rd (fun i h => (List.mem_append_right _ h)) (fun b hb => (not_cons (fun e => n213 (e ▸ hb)) (not_app ((djs n214) _ hb) (nb211 _ hb))))
     have cx306 := cx245.sub (fun i h => (List.mem_append_right _ h))
     have q307 := q20.mono (((((((tAp g43 (fun _ h => nilO h) f45).trans ((Tr.refl (ownB v39 ++ L) w40).sub (fun i h => (List.mem_append_right _ h)))).trans t152).trans g191.t0).trans (tAp g208 (fun _ h => nilO h) f210)).trans g244.t0).trans ((Tr.refl (ownB v204 ++ (oby70 :: (ownB hpy70_0 ++ L))) w240).sub (fun i h => (List.mem_append_right _ h))))
     have m308 := ((m201.g0 g208).g0 g244).g0 (G.refl [] w240)
     obtain ⟨t309, ht310, h⟩ := Option.bind_eq_some_iff.1 h
     refine lS (oCall p298.z Try.call10 (ag5 s300 s301 s302 s303 s299) (c10_n1_n2 (oby70 :: (ownB hpy70_0 ++ L)) w240 x0 h0 x1 z199 v204 cx306.lt sepN q307 q305 _ ht310) rfl fun v314 a311 w312 hp315 p313 sp313 => ?_)
     obtain ⟨h316, h317, h318, rfl, q319, q320, q321, g324⟩ := hp315
     have cx325 := cx306.ca g324
     refine s1 p313.z (okMv sp313) rfl fun a326 p327 s328 => ?_
     refine s1 p327.z (okExt (vs := [_, _, _, _, _]) s328 rfl) rfl fun a329 p330 s331 => ?_
     have s332 := p330.o s328 rfl
     refine s1 p330.z (okExt (vs := [_, _, _, _, _]) s332 rfl) rfl fun a333 p334 s335 => ?_
     have s336 := p334.o s332 rfl
     refine s1 p334.z (okExt (vs := [_, _, _, _, _]) s336 rfl) rfl fun a337 p338 s339 => ?_
     have s340 := p338.o s336 rfl
     refine s1 p338.z (okExt (vs := [_, _, _, _, _]) s340 rfl) rfl fun a341 p342 s343 => ?_
     have s344 := p342.o s340 rfl
     refine s1 p342.z (okExt (vs := [_, _, _, _, _]) s344 rfl) rfl fun a345 p346 s347 => ?_
     have s348 := p346.o (p342.o (p338.o (p334.o s331 rfl) rfl) rfl) rfl
     refine s1 p346.z (okAs s348) rfl fun a349 p350 s351 => ?_
     have s352 := p350.o (p346.o (p342.o (p338.o s335 rfl) rfl) rfl) rfl
     refine s1 p350.z (okAs s352) rfl fun a353 p354 s355 => ?_
     have s356 := p354.o (p350.o (p346.o (p342.o s339 rfl) rfl) rfl) rfl
     refine s1 p354.z (okAs s356) rfl fun a357 p358 s359 => ?_
     have s360 := p358.o (p354.o (p350.o (p346.o s343 rfl) rfl) rfl) rfl
     refine s1 p358.z (okAs s360) rfl fun a361 p362 s363 => ?_
     have s364 := p362.o (p358.o (p354.o (p350.o s347 rfl) rfl) rfl) rfl
     refine s1 p362.z (okAs s364) rfl fun a365 p366 s367 => ?_
     refine rN (thenN ?_)
     refine wp_seq ?_
     refine reg ?_
     have s368 := p366.o (p362.o (p358.o (p354.o (p350.o (p346.o (p342.o (p338.o (p334.o (p330.o (p327.o (p313.o (p298.o (p294.o (p290.o (p286.o (p282.o (p278.o s274 rfl) rfl) rfl) rfl) rfl) rfl) rfl) rfl) rfl) rfl) rfl) rfl) rfl) rfl) rfl) rfl) rfl) rfl
     refine s1 p366.z (okMv s368) rfl fun a369 p370 s371 => ?_
     refine s1 p370.z (okGt s371 cst) rfl fun a372 p373 s374 => ?_
     refine s1 p373.z (okMv s374) rfl fun a375 p376 s377 => ?_
     refine cutP 3 (fun a' => Pg Try.f3.ntmps [62, 63, 64] a375 a' ∧ a'.eval (.tmp 64) = .bool ((decide (0 < t237)) || (decide (x1 < 0)))) ?_ ?_
     ·rcases bf (decide (0 < t237)) with hb378 | hb378
      ·have s379 := bv s377 hb378
       have s380 := p376.o (p373.o (p370.o (p366.o (p362.o (p358.o (p354.o (p350.o (p346.o (p342.o (p338.o (p334.o (p330.o (p327.o (p313.o (p298.o (p294.o s292 rfl) rfl) rfl) rfl) rfl) rfl) rfl) rfl) rfl) rfl) rfl) rfl) rfl) rfl) rfl) rfl) rfl
       refine s1g p376.z (okMv s380) rfl (yd p376.z rfl rfl s379) fun a381 p382 s383 => ?_
       have s384 := p382.o s379 rfl
       refine s1g p382.z (okLt s383 cst) rfl (yd p382.z rfl rfl s384) fun a385 p386 s387 => ?_
       have s388 := p386.o s384 rfl
       refine s1 p386.z (okPickF s388 s387) rfl fun a389 p390 s391 => ?_
       exact rN ⟨rfl, rfl, ((((Pg.refl p376.z).st p382 rfl).st p386 rfl).st p390 rfl), (orF hb378 s391)⟩
      ·have s392 := bv s377 hb378
       refine s1k p376.z rfl (yd p376.z rfl rfl s392) rfl fun a393 p394 s395 => ?_
       have s396 := p394.o s392 rfl
       refine s1k p394.z rfl (yd p394.z rfl rfl s396) rfl fun a397 p398 s399 => ?_
       have s400 := p398.o s396 rfl
       refine s1 p398.z (okPickT s400 cst) rfl fun a401 p402 s403 => ?_
       exact rN ⟨rfl, rfl, ((((Pg.refl p376.z).st p394 rfl).st p398 rfl).st p402 rfl), (orT hb378 s403)⟩
     rintro a404 ⟨pg405, s406⟩
     refine s1 pg405.z (okMv s406) rfl fun a407 p408 s409 => ?_
     refine cutP 3 (fun a' => Pg Try.f3.ntmps [66, 67, 68] a407 a' ∧ a'.eval (.tmp 68) = .bool (((decide (0 < t237)) || (decide (x1 < 0))) || (decide (1 < x1)))) ?_ ?_
     ·rcases bf ((decide (0 < t237)) || (decide (x1 < 0))) with hb410 | hb410
      ·have s411 := bv s409 hb410
       have s412 := p408.o (pg405.o (p376.o (p373.o (p370.o (p366.o (p362.o (p358.o (p354.o (p350.o (p346.o (p342.o (p338.o (p334.o (p330.o (p327.o (p313.o (p298.o (p294.o s292 rfl) rfl) rfl) rfl) rfl) rfl) rfl) rfl) rfl) rfl) rfl) rfl) rfl) rfl) rfl) rfl) rfl) rfl) rfl
       refine s1g p408.z (okMv s412) rfl (yd p408.z rfl rfl s411) fun a413 p414 s415 => ?_
       have s416 := p414.o s411 rfl
       refine s1g p414.z (okGt s415 cst) rfl (yd p414.z rfl rfl s416) fun a417 p418 s419 => ?_
       have s420 := p418.o s416 rfl
       refine s1 p418.z (okPickF s420 s419) rfl fun a421 p422 s423 => ?_
       exact rN ⟨rfl, rfl, ((((Pg.refl p408.z).st p414 rfl).st p418 rfl).st p422 rfl), (orF hb410 s423)⟩
      ·have s424 := bv s409 hb410
       refine s1k p408.z rfl (yd p408.z rfl rfl s424) rfl fun a425 p426 s427 => ?_
       have s428 := p426.o s424 rfl
       refine s1k p426.z rfl (yd p426.z rfl rfl s428) rfl fun a429 p430 s431 => ?_
       have s432 := p430.o s428 rfl
       refine s1 p430.z (okPickT s432 cst) rfl fun a433 p434 s435 => ?_
       exact rN ⟨rfl, rfl, ((((Pg.refl p408.z).st p426 rfl).st p430 rfl).st p434 rfl), (orT hb410 s435)⟩
     rintro a436 ⟨pg437, s438⟩
     refine s1 pg437.z (okMv s438) rfl fun a439 p440 s441 => ?_
     refine cutP 3 (fun a' => Pg Try.f3.ntmps [70, 71, 72] a439 a' ∧ a'.eval (.tmp 72) = .bool ((((decide (0 < t237)) || (decide (x1 < 0))) || (decide (1 < x1))) || (t184 == 0))) ?_ ?_
     ·rcases bf (((decide (0 < t237)) || (decide (x1 < 0))) || (decide (1 < x1))) with hb442 | hb442
      ·have s443 := bv s441 hb442
       have s444 := p440.o (pg437.o (p408.o (pg405.o (p376.o (p373.o (p370.o (p366.o (p362.o (p358.o (p354.o (p350.o (p346.o (p342.o (p338.o (p334.o (p330.o (p327.o (p313.o (p298.o (p294.o (p290.o (p286.o (p282.o (p278.o (pg275.o s256 rfl) rfl) rfl) rfl) rfl) rfl) rfl) rfl) rfl) rfl) rfl) rfl) rfl) rfl) rfl) rfl) rfl) rfl) rfl) rfl) rfl) rfl) rfl) rfl) rfl) rfl
       refine s1g p440.z (okMv s444) rfl (yd p440.z rfl rfl s443) fun a445 p446 s447 => ?_
       have s448 := p446.o s443 rfl
       refine s1g p446.z (okEq s447 cst) rfl (yd p446.z rfl rfl s448) fun a449 p450 s451 => ?_
       have s452 := p450.o s448 rfl
       refine s1 p450.z (okPickF s452 s451) rfl fun a453 p454 s455 => ?_
       exact rN ⟨rfl, rfl, ((((Pg.refl p440.z).st p446 rfl).st p450 rfl).st p454 rfl), (orF hb442 s455)⟩
      ·have s456 := bv s441 hb442
       refine s1k p440.z rfl (yd p440.z rfl rfl s456) rfl fun a457 p458 s459 => ?_
       have s460 := p458.o s456 rfl
       refine s1k p458.z rfl (yd p458.z rfl rfl s460) rfl fun a461 p462 s463 => ?_
       have s464 := p462.o s460 rfl
       refine s1 p462.z (okPickT s464 cst) rfl fun a465 p466 s467 => ?_
       exact rN ⟨rfl, rfl, ((((Pg.refl p440.z).st p458 rfl).st p462 rfl).st p466 rfl), (orT hb442 s467)⟩
     rintro a468 ⟨pg469, s470⟩
     refine s1 pg469.z (okMv s470) rfl fun a471 p472 s473 => ?_
     refine cutP 3 (fun a' => Pg Try.f3.ntmps [74, 75, 76] a471 a' ∧ a'.eval (.tmp 76) = .bool (((((decide (0 < t237)) || (decide (x1 < 0))) || (decide (1 < x1))) || (t184 == 0)) || (decide (16 < t184)))) ?_ ?_
     ·rcases bf ((((decide (0 < t237)) || (decide (x1 < 0))) || (decide (1 < x1))) || (t184 == 0)) with hb474 | hb474
      ·have s475 := bv s473 hb474
       have s476 := p472.o (pg469.o (p440.o (pg437.o (p408.o (pg405.o (p376.o (p373.o (p370.o (p366.o (p362.o (p358.o (p354.o (p350.o (p346.o (p342.o (p338.o (p334.o (p330.o (p327.o (p313.o (p298.o (p294.o (p290.o (p286.o (p282.o (p278.o (pg275.o s256 rfl) rfl) rfl) rfl) rfl) rfl) rfl) rfl) rfl) rfl) rfl) rfl) rfl) rfl) rfl) rfl) rfl) rfl) rfl) rfl) rfl) rfl) rfl) rfl) rfl) rfl) rfl) rfl
       refine s1g p472.z (okMv s476) rfl (yd p472.z rfl rfl s475) fun a477 p478 s479 => ?_
       have s480 := p478.o s475 rfl
       refine s1g p478.z (okGt s479 cst) rfl (yd p478.z rfl rfl s480) fun a481 p482 s483 => ?_
       have s484 := p482.o s480 rfl
       refine s1 p482.z (okPickF s484 s483) rfl fun a485 p486 s487 => ?_
       exact rN ⟨rfl, rfl, ((((Pg.refl p472.z).st p478 rfl).st p482 rfl).st p486 rfl), (orF hb474 s487)⟩
      ·have s488 := bv s473 hb474
       refine s1k p472.z rfl (yd p472.z rfl rfl s488) rfl fun a489 p490 s491 => ?_
       have s492 := p490.o s488 rfl
       refine s1k p490.z rfl (yd p490.z rfl rfl s492) rfl fun a493 p494 s495 => ?_
       have s496 := p494.o s492 rfl
       refine s1 p494.z (okPickT s496 cst) rfl fun a497 p498 s499 => ?_
       exact rN ⟨rfl, rfl, ((((Pg.refl p472.z).st p490 rfl).st p494 rfl).st p498 rfl), (orT hb474 s499)⟩
     rintro a500 ⟨pg501, s502⟩
     refine s1 pg501.z (okAs s502) rfl fun a503 p504 s505 => ?_
     refine rN (thenN ?_)
     refine wp_seq ?_
     refine wp_seq ?_
     refine reg ?_
     refine s1 p504.z (okMv s505) rfl fun a506 p507 s508 => ?_
     refine s1 p507.z (okNot s508) rfl fun a509 p510 s511 => ?_
     refine rN (thenN ?_)
     have s512 := p510.o (p507.o (p504.o (pg501.o (p472.o (pg469.o (p440.o (pg437.o (p408.o (pg405.o (p376.o (p373.o (p370.o (p366.o (p362.o (p358.o (p354.o s351 rfl) rfl) rfl) rfl) rfl) rfl) rfl) rfl) rfl) rfl) rfl) rfl) rfl) rfl) rfl) rfl) rfl
     have s513 := p510.o (p507.o (p504.o (pg501.o (p472.o (pg469.o (p440.o (pg437.o (p408.o (pg405.o (p376.o (p373.o (p370.o (p366.o (p362.o (p358.o s355 rfl) rfl) rfl) rfl) rfl) rfl) rfl) rfl) rfl) rfl) rfl) rfl) rfl) rfl) rfl) rfl
     have s514 := p510.o (p507.o (p504.o (pg501.o (p472.o (pg469.o (p440.o (pg437.o (p408.o (pg405.o (p376.o (p373.o (p370.o (p366.o (p362.o s359 rfl) rfl) rfl) rfl) rfl) rfl) rfl) rfl) rfl) rfl) rfl) rfl) rfl) rfl) rfl
     have s515 := p510.o (p507.o (p504.o (pg501.o (p472.o (pg469.o (p440.o (pg437.o (p408.o (pg405.o (p376.o (p373.o (p370.o (p366.o s363 rfl) rfl) rfl) rfl) rfl) rfl) rfl) rfl) rfl) rfl) rfl) rfl) rfl) rfl
     have s516 := p510.o (p507.o (p504.o (pg501.o (p472.o (pg469.o (p440.o (pg437.o (p408.o (pg405.o (p376.o (p373.o (p370.o s367 rfl) rfl) rfl) rfl) rfl) rfl) rfl) rfl) rfl) rfl) rfl) rfl) rfl
     have pg517 : Pg _ [15, 17, 18, 19, 20, 21, 22, 47, 48, 49, 50, 51, 52, 53, 54, 55, 56, 57, 58, 59, 60, 61, 62, 63, 64, 65, 66, 67, 68, 69, 70, 71, 72, 73, 74, 75, 76, 77, 78] _ _ := ((((((((((((((((((((((((((((((((Pg.refl pg275.z).st p278 rfl).st p282 rfl).st p286 rfl).st p290 rfl).st p294 rfl).st p298 rfl).st p313 rfl).st p327 rfl).st p330 rfl).st p334 rfl).st p338 rfl).st p342 rfl).st p346 rfl).st p350 rfl).st p354 rfl).st p358 rfl).st p362 rfl).st p366 rfl).st p370 rfl).st p373 rfl).st p376 rfl).tr pg405 rfl).st p408 rfl).tr pg437 rfl).st p440 rfl).tr pg469 rfl).st p472 rfl).tr pg501 rfl).st p504 rfl).st p507 rfl).st p510 rfl)
     refine cnd s511 (fun hb518 => ?_) (fun hb518 => ?_)
     ·replace h := (ifP hb518).symm.trans h
      refine wp_seq ?_
      refine reg ?_
      have s519 := pg517.o (pg275.o (pg261.o s29 rfl) rfl) rfl
      refine s1 pg517.z (okMv s519) rfl fun a520 p521 s522 => ?_
      refine s1 p521.z (okMv s522) rfl fun a523 p524 s525 => ?_
      refine cutP 3 (fun a' => Pg Try.f3.ntmps [81, 82, 83] a523 a' ∧ a'.eval (.tmp 83) = .bool (t4 && ((t309.2.2.2.2).isN))) ?_ ?_
      ·rcases bf t4 with hb526 | hb526
       ·have s527 := bv s525 hb526
        refine s1k p524.z rfl (yd p524.z rfl rfl s527) rfl fun a528 p529 s530 => ?_
        have s531 := p529.o s527 rfl
        refine s1k p529.z rfl (yd p529.z rfl rfl s531) rfl fun a532 p533 s534 => ?_
        have s535 := p533.o s531 rfl
        refine s1 p533.z (okPickF s535 cst) rfl fun a536 p537 s538 => ?_
        exact rN ⟨rfl, rfl, ((((Pg.refl p524.z).st p529 rfl).st p533 rfl).st p537 rfl), (andF hb526 s538)⟩
       ·have s539 := bv s525 hb526
        have s540 := p524.o (p521.o s516 rfl) rfl
        refine s1g p524.z (okMv s540) rfl (yd p524.z rfl rfl s539) fun a541 p542 s543 => ?_
        have s544 := p542.o s539 rfl
        refine s1g p542.z (okEEqN ef33 s543 q321 _) rfl (yd p542.z rfl rfl s544) fun a545 p546 s547 => ?_
        have s548 := p546.o s544 rfl
        refine s1 p546.z (okPickT s548 s547) rfl fun a549 p550 s551 => ?_
        exact rN ⟨rfl, rfl, ((((Pg.refl p524.z).st p542 rfl).st p546 rfl).st p550 rfl), (andT hb526 s551)⟩
      rintro a552 ⟨pg553, s554⟩
      refine s1 pg553.z (okMv s554) rfl fun a555 p556 s557 => ?_
      refine cutP 3 (fun a' => Pg Try.f3.ntmps [85, 86, 87] a555 a' ∧ a'.eval (.tmp 87) = .bool ((t4 && ((t309.2.2.2.2).isN)) && (decide (0 ≤ t309.2.2.1)))) ?_ ?_
      ·rcases bf (t4 && ((t309.2.2.2.2).isN)) with hb558 | hb558
       ·have s559 := bv s557 hb558
        refine s1k p556.z rfl (yd p556.z rfl rfl s559) rfl fun a560 p561 s562 => ?_
        have s563 := p561.o s559 rfl
        refine s1k p561.z rfl (yd p561.z rfl rfl s563) rfl fun a564 p565 s566 => ?_
        have s567 := p565.o s563 rfl
        refine s1 p565.z (okPickF s567 cst) rfl fun a568 p569 s570 => ?_
        exact rN ⟨rfl, rfl, ((((Pg.refl p556.z).st p561 rfl).st p565 rfl).st p569 rfl), (andF hb558 s570)⟩
       ·have s571 := bv s557 hb558
        have s572 := p556.o (pg553.o (p524.o (p521.o s514 rfl) rfl) rfl) rfl
        refine s1g p556.z (okMv s572) rfl (yd p556.z rfl rfl s571) fun a573 p574 s575 => ?_
        have s576 := p574.o s571 rfl
        refine s1g p574.z (okGe s575 cst) rfl (yd p574.z rfl rfl s576) fun a577 p578 s579 => ?_
        have s580 := p578.o s576 rfl
        refine s1 p578.z (okPickT s580 s579) rfl fun a581 p582 s583 => ?_
        exact rN ⟨rfl, rfl, ((((Pg.refl p556.z).st p574 rfl).st p578 rfl).st p582 rfl), (andT hb558 s583)⟩
      rintro a584 ⟨pg585, s586⟩
      refine s1 pg585.z (okMv s586) rfl fun a587 p588 s589 => ?_
      refine cutP 3 (fun a' => Pg Try.f3.ntmps [89, 90, 91] a587 a' ∧ a'.eval (.tmp 91) = .bool (((t4 && ((t309.2.2.2.2).isN)) && (decide (0 ≤ t309.2.2.1))) && (decide (t309.2.2.1 ≤ 3)))) ?_ ?_
      ·rcases bf ((t4 && ((t309.2.2.2.2).isN)) && (decide (0 ≤ t309.2.2.1))) with hb590 | hb590
       ·have s591 := bv s589 hb590
        refine s1k p588.z rfl (yd p588.z rfl rfl s591) rfl fun a592 p593 s594 => ?_
        have s595 := p593.o s591 rfl
        refine s1k p593.z rfl (yd p593.z rfl rfl s595) rfl fun a596 p597 s598 => ?_
        have s599 := p597.o s595 rfl
        refine s1 p597.z (okPickF s599 cst) rfl fun a600 p601 s602 => ?_
        exact rN ⟨rfl, rfl, ((((Pg.refl p588.z).st p593 rfl).st p597 rfl).st p601 rfl), (andF hb590 s602)⟩
       ·have s603 := bv s589 hb590
        have s604 := p588.o (pg585.o (p556.o (pg553.o (p524.o (p521.o s514 rfl) rfl) rfl) rfl) rfl) rfl
        refine s1g p588.z (okMv s604) rfl (yd p588.z rfl rfl s603) fun a605 p606 s607 => ?_
        have s608 := p606.o s603 rfl
        refine s1g p606.z (okLe s607 cst) rfl (yd p606.z rfl rfl s608) fun a609 p610 s611 => ?_
        have s612 := p610.o s608 rfl
        refine s1 p610.z (okPickT s612 s611) rfl fun a613 p614 s615 => ?_
        exact rN ⟨rfl, rfl, ((((Pg.refl p588.z).st p606 rfl).st p610 rfl).st p614 rfl), (andT hb590 s615)⟩
      rintro a616 ⟨pg617, s618⟩
      refine s1 pg617.z (okAs s618) rfl fun a619 p620 s621 => ?_
      refine rN (thenN ?_)
      obtain rfl := Option.some.inj h
      exact wp_ret (thenR (ret1 p620.z Try.results3 (rvT s621) ⟨_, rfl, rfl, cx325.g⟩))
     replace h := (ifN hb518).symm.trans h
     refine wp_skip (thenN ?_)
     refine wp_seq ?_
     refine reg ?_
     have s622 := pg517.o (pg275.o (pg261.o s29 rfl) rfl) rfl
     refine s1 pg517.z (okMv s622) rfl fun a623 p624 s625 => ?_
     refine s1 p624.z (okMv s625) rfl fun a626 p627 s628 => ?_
     refine cutP 4 (fun a' => Pg Try.f3.ntmps [94, 95, 96, 97] a626 a' ∧ a'.eval (.tmp 97) = .bool (t4 && (decide (t309.2.2.2.2 = .code 1)))) ?_ ?_
     ·rcases bf t4 with hb629 | hb629
      ·have s630 := bv s628 hb629
       refine s1k p627.z rfl (yd p627.z rfl rfl s630) rfl fun a631 p632 s633 => ?_
       have s634 := p632.o s630 rfl
       refine s1k p632.z rfl (yd p632.z rfl rfl s634) rfl fun a635 p636 s637 => ?_
       have s638 := p636.o s634 rfl
       refine s1k p636.z rfl (yd p636.z rfl rfl s638) rfl fun a639 p640 s641 => ?_
       have s642 := p640.o s638 rfl
       refine s1 p640.z (okPickF s642 cst) rfl fun a643 p644 s645 => ?_
       exact rN ⟨rfl, rfl, (((((Pg.refl p627.z).st p632 rfl).st p636 rfl).st p640 rfl).st p644 rfl), (andF hb629 s645)⟩
      ·have s646 := bv s628 hb629
       have s647 := p627.o (p624.o s516 rfl) rfl
       refine s1g p627.z (okMv s647) rfl (yd p627.z rfl rfl s646) fun a648 p649 s650 => ?_
       have s651 := p649.o s646 rfl
       refine s1g p649.z (okMkI Try.underlying36 cst _) rfl (yd p649.z rfl rfl s651) fun a652 p653 s654 => ?_
       have s655 := p653.o s651 rfl
       have s656 := p653.o s650 rfl
       refine s1g p653.z (okEEqC ef33 s656 q321 s654 _) rfl (yd p653.z rfl rfl s655) fun a657 p658 s659 => ?_
       have s660 := p658.o s655 rfl
       refine s1 p658.z (okPickT s660 s659) rfl fun a661 p662 s663 => ?_
       exact rN ⟨rfl, rfl, (((((Pg.refl p627.z).st p649 rfl).st p653 rfl).st p658 rfl).st p662 rfl), (andT hb629 s663)⟩
     rintro a664 ⟨pg665, s666⟩
     refine s1 pg665.z (okMv s666) rfl fun a667 p668 s669 => ?_
     refine cutP 4 (fun a' => Pg Try.f3.ntmps [99, 100, 101, 102] a667 a' ∧ a'.eval (.tmp 102) = .bool ((t4 && (decide (t309.2.2.2.2 = .code 1))) && ((t309.1.length : Int) == 0))) ?_ ?_
     ·rcases bf (t4 && (decide (t309.2.2.2.2 = .code 1))) with hb670 | hb670
      ·have s671 := bv s669 hb670
       refine s1k p668.z rfl (yd p668.z rfl rfl s671) rfl fun a672 p673 s674 => ?_
       have s675 := p673.o s671 rfl
       refine s1k p673.z rfl (yd p673.z rfl rfl s675) rfl fun a676 p677 s678 => ?_
       have s679 := p677.o s675 rfl
       refine s1k p677.z rfl (yd p677.z rfl rfl s679) rfl fun a680 p681 s682 => ?_
       have s683 := p681.o s679 rfl
       refine s1 p681.z (okPickF s683 cst) rfl fun a684 p685 s686 => ?_
       exact rN ⟨rfl, rfl, (((((Pg.refl p668.z).st p673 rfl).st p677 rfl).st p681 rfl).st p685 rfl), (andF hb670 s686)⟩
      ·have s687 := bv s669 hb670
       have s688 := p668.o (pg665.o (p627.o (p624.o s512 rfl) rfl) rfl) rfl
       refine s1g p668.z (okMv s688) rfl (yd p668.z rfl rfl s687) fun a689 p690 s691 => ?_
       have s692 := p690.o s687 rfl
       refine s1g p690.z (okLenR Try.underlying30 s691 q319) rfl (yd p690.z rfl rfl s692) fun a693 p694 s695 => ?_
       have s696 := p694.o s692 rfl
       refine s1g p694.z (okEq s695 cst) rfl (yd p694.z rfl rfl s696) fun a697 p698 s699 => ?_
       have s700 := p698.o s696 rfl
       refine s1 p698.z (okPickT s700 s699) rfl fun a701 p702 s703 => ?_
       exact rN ⟨rfl, rfl, (((((Pg.refl p668.z).st p690 rfl).st p694 rfl).st p698 rfl).st p702 rfl), (andT hb670 s703)⟩
     rintro a704 ⟨pg705, s706⟩
     refine s1 pg705.z (okMv s706) rfl fun a707 p708 s709 => ?_
     refine cutP 4 (fun a' => Pg Try.f3.ntmps [104, 105, 106, 107] a707 a' ∧ a'.eval (.tmp 107) = .bool (((t4 && (decide (t309.2.2.2.2 = .code 1))) && ((t309.1.length : Int) == 0)) && ((t309.2.1.length : Int) == 0))) ?_ ?_
     ·rcases bf ((t4 && (decide (t309.2.2.2.2 = .code 1))) && ((t309.1.length : Int) == 0)) with hb710 | hb710
      ·have s711 := bv s709 hb710
       refine s1k p708.z rfl (yd p708.z rfl rfl s711) rfl fun a712 p713 s714 => ?_
       have s715 := p713.o s711 rfl
       refine s1k p713.z rfl (yd p713.z rfl rfl s715) rfl fun a716 p717 s718 => ?_
       have s719 := p717.o s715 rfl
       refine s1k p717.z rfl (yd p717.z rfl rfl s719) rfl fun a720 p721 s722 => ?_
       have s723 := p721.o s719 rfl
       refine s1 p721.z (okPickF s723 cst) rfl fun a724 p725 s726 => ?_
       exact rN ⟨rfl, rfl, (((((Pg.refl p708.z).st p713 rfl).st p717 rfl).st p721 rfl).st p725 rfl), (andF hb710 s726)⟩
      ·have s727 := bv s709 hb710
       have s728 := p708.o (pg705.o (p668.o (pg665.o (p627.o (p624.o s513 rfl) rfl) rfl) rfl) rfl) rfl
       refine s1g p708.z (okMv s728) rfl (yd p708.z rfl rfl s727) fun a729 p730 s731 => ?_
       have s732 := p730.o s727 rfl
       refine s1g p730.z (okLenR Try.underlying31 s731 q320) rfl (yd p730.z rfl rfl s732) fun a733 p734 s735 => ?_
       have s736 := p734.o s732 rfl
       refine s1g p734.z (okEq s735 cst) rfl (yd p734.z rfl rfl s736) fun a737 p738 s739 => ?_
       have s740 := p738.o s736 rfl
       refine s1 p738.z (okPickT s740 s739) rfl fun a741 p742 s743 => ?_
       exact rN ⟨rfl, rfl, (((((Pg.refl p708.z).st p730 rfl).st p734 rfl).st p738 rfl).st p742 rfl), (andT hb710 s743)⟩
     rintro a744 ⟨pg745, s746⟩
     refine s1 pg745.z (okMv s746) rfl fun a747 p748 s749 => ?_
     refine cutP 3 (fun a' => Pg Try.f3.ntmps [109, 110, 111] a747 a' ∧ a'.eval (.tmp 111) = .bool ((((t4 && (decide (t309.2.2.2.2 = .code 1))) && ((t309.1.length : Int) == 0)) && ((t309.2.1.length : Int) == 0)) && (t309.2.2.1 == 0))) ?_ ?_
     ·rcases bf (((t4 && (decide (t309.2.2.2.2 = .code 1))) && ((t309.1.length : Int) == 0)) && ((t309.2.1.length : Int) == 0)) with hb750 | hb750
      ·have s751 := bv s749 hb750
       refine s1k p748.z rfl (yd p748.z rfl rfl s751) rfl fun a752 p753 s754 => ?_
       have s755 := p753.o s751 rfl
       refine s1k p753.z rfl (yd p753.z rfl rfl s755) rfl fun a756 p757 s758 => ?_
       have s759 := p757.o s755 rfl
       refine s1 p757.z (okPickF s759 cst) rfl fun a760 p761 s762 => ?_
       exact rN ⟨rfl, rfl, ((((Pg.refl p748.z).st p753 rfl).st p757 rfl).st p761 rfl), (andF hb750 s762)⟩
      ·have s763 := bv s749 hb750
       have s764 := p748.o (pg745.o (p708.o (pg705.o (p668.o (pg665.o (p627.o (p624.o s514 rfl) rfl) rfl) rfl) rfl) rfl) rfl) rfl
       refine s1g p748.z (okMv s764) rfl (yd p748.z rfl rfl s763) fun a765 p766 s767 => ?_
       have s768 := p766.o s763 rfl
       refine s1g p766.z (okEq s767 cst) rfl (yd p766.z rfl rfl s768) fun a769 p770 s771 => ?_
       have s772 := p770.o s768 rfl
       refine s1 p770.z (okPickT s772 s771) rfl fun a773 p774 s775 => ?_
       exact rN ⟨rfl, rfl, ((((Pg.refl p748.z).st p766 rfl).st p770 rfl).st p774 rfl), (andT hb750 s775)⟩
     rintro a776 ⟨pg777, s778⟩
     refine s1 pg777.z (okMv s778) rfl fun a779 p780 s781 => ?_
     refine cutP 3 (fun a' => Pg Try.f3.ntmps [113, 114, 115] a779 a' ∧ a'.eval (.tmp 115) = .bool (((((t4 && (decide (t309.2.2.2.2 = .code 1))) && ((t309.1.length : Int) == 0)) && ((t309.2.1.length : Int) == 0)) && (t309.2.2.1 == 0)) && (t309.2.2.2.1 == 0))) ?_ ?_
     ·rcases bf ((((t4 && (decide (t309.2.2.2.2 = .code 1))) && ((t309.1.length : Int) == 0)) && ((t309.2.1.length : Int) == 0)) && (t309.2.2.1 == 0)) with hb782 | hb782
      ·have s783 := bv s781 hb782
       refine s1k p780.z rfl (yd p780.z rfl rfl s783) rfl fun a784 p785 s786 => ?_
       have s787 := p785.o s783 rfl
       refine s1k p785.z rfl (yd p785.z rfl rfl s787) rfl fun a788 p789 s790 => ?_
       have s791 := p789.o s787 rfl
       refine s1 p789.z (okPickF s791 cst) rfl fun a792 p793 s794 => ?_
       exact rN ⟨rfl, rfl, ((((Pg.refl p780.z).st p785 rfl).st p789 rfl).st p793 rfl), (andF hb782 s794)⟩
      ·have s795 := bv s781 hb782
       have s796 := p780.o (pg777.o (p748.o (pg745.o (p708.o (pg705.o (p668.o (pg665.o (p627.o (p624.o s515 rfl) rfl) rfl) rfl) rfl) rfl) rfl) rfl) rfl) rfl
       refine s1g p780.z (okMv s796) rfl (yd p780.z rfl rfl s795) fun a797 p798 s799 => ?_
       have s800 := p798.o s795 rfl
       refine s1g p798.z (okEq s799 cst) rfl (yd p798.z rfl rfl s800) fun a801 p802 s803 => ?_
       have s804 := p802.o s800 rfl
       refine s1 p802.z (okPickT s804 s803) rfl fun a805 p806 s807 => ?_
       exact rN ⟨rfl, rfl, ((((Pg.refl p780.z).st p798 rfl).st p802 rfl).st p806 rfl), (andT hb782 s807)⟩
     rintro a808 ⟨pg809, s810⟩
     refine s1 pg809.z (okMv s810) rfl fun a811 p812 s813 => ?_
     obtain ⟨b814, hb815, h⟩ := Option.bind_eq_some_iff.1 h
     refine cutL 4 (fun a' w' => Pg Try.f3.ntmps [117, 118, 119, 120] a811 a' ∧ a'.eval (.tmp 120) = .bool b814 ∧ G [] w312 w') ?_ ?_
     ·rcases bf (((((t4 && (decide (t309.2.2.2.2 = .code 1))) && ((t309.1.length : Int) == 0)) && ((t309.2.1.length : Int) == 0)) && (t309.2.2.1 == 0)) && (t309.2.2.2.1 == 0)) with hb816 | hb816
      ·have s817 := bv s813 hb816
       replace hb815 := (ifN hb816).symm.trans hb815
       clear h; have h := hb815; clear hb815
       refine s1k p812.z rfl (yd p812.z rfl rfl s817) rfl fun a818 p819 s820 => ?_
       have s821 := p819.o s817 rfl
       refine s1k p819.z rfl (yd p819.z rfl rfl s821) rfl fun a822 p823 s824 => ?_
       have s825 := p823.o s821 rfl
       refine s1k p823.z rfl (yd p823.z rfl rfl s825) rfl fun a826 p827 s828 => ?_
       have s829 := p827.o s825 rfl
       refine s1 p827.z (okPickF s829 cst) rfl fun a830 p831 s832 => ?_
       obtain rfl := Option.some.inj h
       exact rN ⟨rfl, (((((Pg.refl p812.z).st p819 rfl).st p823 rfl).st p827 rfl).st p831 rfl), s832, (G.refl _ _)⟩
      ·have s833 := bv s813 hb816
       replace hb815 := (ifP hb816).symm.trans hb815
       clear h; have h := hb815; clear hb815
       have s834 := p812.o (pg809.o (p780.o (pg777.o (p748.o (pg745.o (p708.o (pg705.o (p668.o (pg665.o (p627.o (p624.o (pg517.o (pg275.o s255 rfl) rfl) rfl) rfl) rfl) rfl) rfl) rfl) rfl) rfl) rfl) rfl) rfl) rfl
       refine s1g p812.z (okMv s834) rfl (yd p812.z rfl rfl s833) fun a835 p836 s837 => ?_
       have s838 := p836.o s833 rfl
       have m839 := m308.g0 g324
       have q840 := (((q202.t0 (tAp g208 (fun _ h => nilO h) f210) g208).t0 g244.t0 g244).t0 ((Tr.refl (ownB v204 ++ (oby70 :: (ownB hpy70_0 ++ L))) w240).sub (fun i h => (List.mem_append_right _ h))) (G.refl [] w240)).t0 g324.t0 g324
       obtain ⟨t841, ht842, h⟩ := Option.bind_eq_some_iff.1 h
       refine lG rfl (yd p836.z rfl rfl s838) (oCall p836.z Try.call11 (ag1 s837) (c11 L w312 y70 oby70 hpy70_0 cx325.lt (sepC (show ∀ x ∈ [oby70], x ∉ (ownB hpy70_0 ++ L) from (in1 (na (D148.bo (i := 0) (j := 1) rfl rfl rfl) (fun h => Nat.lt_irrefl _ (Nat.lt_of_lt_of_le (hL _ h) (Nat.le_trans cx50.g.sz (f67 _ (List.mem_append_left _ (.head _))))))))) (sepC (show ∀ x ∈ ownB hpy70_0, x ∉ L from (fun x hx => ((fun x hx hl => D148.dl (i := 1) rfl x hx hl) x hx))) sepN)) m839 q840 _ ht842) rfl fun v846 a843 w844 hp847 p845 sp845 => ?_)
       obtain ⟨rfl, g850⟩ := hp847
       have cx851 := cx325.ca g850
       have s852 := p845.o s838 rfl
       refine s1g p845.z (okEq sp845 cst) rfl (yd p845.z rfl rfl s852) fun a853 p854 s855 => ?_
       have s856 := p854.o s852 rfl
       refine s1 p854.z (okPickT s856 s855) rfl fun a857 p858 s859 => ?_
       obtain rfl := Option.some.inj h
       exact rN ⟨rfl, (((((Pg.refl p812.z).st p836 rfl).st p845 rfl).st p854 rfl).st p858 rfl), s859, g850⟩
     rintro a860 w863 ⟨pg861, s862, g864⟩
     have cx865 := cx325.ca g864
     refine s1 pg861.z (okAs s862) rfl fun a866 p867 s868 => ?_
     refine rN (thenN ?_)
     obtain rfl := Option.some.inj h
     exact wp_ret (ret1 p867.z Try.results3 (rvT s868) ⟨_, rfl, rfl, cx865.g⟩)
    replace h := (ifN hb276).symm.trans h
    refine wp_skip (thenN ?_)
    refine wp_seq ?_
    refine reg ?_
    have s869 := pg275.o (pg261.o s27 rfl) rfl
    refine s1 pg275.z (okMv s869) rfl fun a870 p871 s872 => ?_
    have s873 := p871.o s273 rfl
    refine s1 p871.z (okMv s873) rfl fun a874 p875 s876 => ?_
    have s877 := p875.o (p871.o (pg275.o s259 rfl) rfl) rfl
    refine s1 p875.z (okMv s877) rfl fun a878 p879 s880 => ?_
    have s881 := p879.o (p875.o (p871.o (pg275.o (pg261.o (pg30.o s0_1 rfl) rfl) rfl) rfl) rfl) rfl
    refine s1 p879.z (okMv s881) rfl fun a882 p883 s884 => ?_
    have s885 := p883.o (p879.o (p875.o (p871.o (pg275.o s257 rfl) rfl) rfl) rfl) rfl
    refine s1 p883.z (okMv s885) rfl fun a886 p887 s888 => ?_
    have s889 := p887.o (p883.o (p879.o (p875.o s872 rfl) rfl) rfl) rfl
    have s890 := p887.o (p883.o (p879.o s876 rfl) rfl) rfl
    have s891 := p887.o (p883.o s880 rfl) rfl
    have s892 := p887.o s884 rfl
    have q893 := q207.t0 g244.t0 g244
    have q894 : RdS KTFrame (oby70 :: (ownB hpy70_0 ++ L)) w240 v204 z199 := q893.rd (fun i h => (List.mem_append_right _ h)) (fun b hb => (not_cons (fun e => n213 (e ▸ hb)) (not_app ((djs n214) _ hb) (nb211 _ hb))))
    have cx895 := cx245.sub (fun i h => (List.mem_append_right _ h))
    have q896 := q20.mono (((((((tAp g43 (fun _ h => nilO h) f45).trans ((Tr.refl (ownB v39 ++ L) w40).sub (fun i h => (List.mem_append_right _ h)))).trans t152).trans g191.t0).trans (tAp g208 (fun _ h => nilO h) f210)).trans g244.t0).trans ((Tr.refl (ownB v204 ++ (oby70 :: (ownB hpy70_0 ++ L))) w240).sub (fun i h => (List.mem_append_right _ h))))
    have m897 := ((m201.g0 g208).g0 g244).g0 (G.refl [] w240)
    obtain ⟨t898, ht899, h⟩ := Option.bind_eq_some_iff.1 h
    refine lS (oCall p887.z Try.call10 (ag5 s889 s890 s891 s892 s888) (c10_n1_n2 (oby70 :: (ownB hpy70_0 ++ L)) w240 x0 h0 x1 z199 v204 cx895.lt sepN q896 q894 _ ht899) rfl fun v903 a900 w901 hp904 p902 sp902 => ?_)
    obtain ⟨h905, h906, h907, rfl, q908, q909, q910, g913⟩ := hp904
    have cx914 := cx895.ca g913
    refine s1 p902.z (okMv sp902) rfl fun a915 p916 s917 => ?_
    refine s1 p916.z (okExt (vs := [_, _, _, _, _]) s917 rfl) rfl fun a918 p919 s920 => ?_
    have s921 := p919.o s917 rfl
    refine s1 p919.z (okExt (vs := [_, _, _, _, _]) s921 rfl) rfl fun a922 p923 s924 => ?_
    have s925 := p923.o s921 rfl
    refine s1 p923.z (okExt (vs := [_, _, _, _, _]) s925 rfl) rfl fun a926 p927 s928 => ?_
    have s929 := p927.o s925 rfl
    refine s1 p927.z (okExt (vs := [_, _, _, _, _]) s929 rfl) rfl fun a930 p931 s932 => ?_
    have s933 := p931.o s929 rfl
    refine s1 p931.z (okExt (vs := [_, _, _, _, _]) s933 rfl) rfl fun a934 p935 s936 => ?_
    have s937 := p935.o (p931.o (p927.o (p923.o s920 rfl) rfl) rfl) rfl
    refine s1 p935.z (okAs s937) rfl fun a938 p939 s940 => ?_
    have s941 := p939.o (p935.o (p931.o (p927.o s924 rfl) rfl) rfl) rfl
    refine s1 p939.z (okAs s941) rfl fun a942 p943 s944 => ?_
    have s945 := p943.o (p939.o (p935.o (p931.o s928 rfl) rfl) rfl) rfl
    refine s1 p943.z (okAs s945) rfl fun a946 p947 s948 => ?_
    have s949 := p947.o (p943.o (p939.o (p935.o s932 rfl) rfl) rfl) rfl
    refine s1 p947.z (okAs s949) rfl fun a950 p951 s952 => ?_
    have s953 := p951.o (p947.o (p943.o (p939.o s936 rfl) rfl) rfl) rfl
    refine s1 p951.z (okAs s953) rfl fun a954 p955 s956 => ?_
    refine rN (thenN ?_)
    refine wp_seq ?_
    refine reg ?_
    have s957 := p955.o (p951.o (p947.o (p943.o (p939.o (p935.o (p931.o (p927.o (p923.o (p919.o (p916.o (p902.o (p887.o (p883.o (p879.o (p875.o (p871.o s274 rfl) rfl) rfl) rfl) rfl) rfl) rfl) rfl) rfl) rfl) rfl) rfl) rfl) rfl) rfl) rfl) rfl
    refine s1 p955.z (okMv s957) rfl fun a958 p959 s960 => ?_
    refine s1 p959.z (okGt s960 cst) rfl fun a961 p962 s963 => ?_
    refine s1 p962.z (okMv s963) rfl fun a964 p965 s966 => ?_
    refine cutP 3 (fun a' => Pg Try.f3.ntmps [62, 63, 64] a964 a' ∧ a'.eval (.tmp 64) = .bool ((decide (0 < t237)) || (decide (x1 < 0)))) ?_ ?_
    ·rcases bf (decide (0 < t237)) with hb967 | hb967
     ·have s968 := bv s966 hb967
      have s969 := p965.o (p962.o (p959.o (p955.o (p951.o (p947.o (p943.o (p939.o (p935.o (p931.o (p927.o (p923.o (p919.o (p916.o (p902.o (p887.o (p883.o s881 rfl) rfl) rfl) rfl) rfl) rfl) rfl) rfl) rfl) rfl) rfl) rfl) rfl) rfl) rfl) rfl) rfl
      refine s1g p965.z (okMv s969) rfl (yd p965.z rfl rfl s968) fun a970 p971 s972 => ?_
      have s973 := p971.o s968 rfl
      refine s1g p971.z (okLt s972 cst) rfl (yd p971.z rfl rfl s973) fun a974 p975 s976 => ?_
      have s977 := p975.o s973 rfl
      refine s1 p975.z (okPickF s977 s976) rfl fun a978 p979 s980 => ?_
      exact rN ⟨rfl, rfl, ((((Pg.refl p965.z).st p971 rfl).st p975 rfl).st p979 rfl), (orF hb967 s980)⟩
     ·have s981 := bv s966 hb967
      refine s1k p965.z rfl (yd p965.z rfl rfl s981) rfl fun a982 p983 s984 => ?_
      have s985 := p983.o s981 rfl
      refine s1k p983.z rfl (yd p983.z rfl rfl s985) rfl fun a986 p987 s988 => ?_
      have s989 := p987.o s985 rfl
      refine s1 p987.z (okPickT s989 cst) rfl fun a990 p991 s992 => ?_
      exact rN ⟨rfl, rfl, ((((Pg.refl p965.z).st p983 rfl).st p987 rfl).st p991 rfl), (orT hb967 s992)⟩
    rintro a993 ⟨pg994, s995⟩
    refine s1 pg994.z (okMv s995) rfl fun a996 p997 s998 => ?_
    refine cutP 3 (fun a' => Pg Try.f3.ntmps [66, 67, 68] a996 a' ∧ a'.eval (.tmp 68) = .bool (((decide (0 < t237)) || (decide (x1 < 0))) || (decide (1 < x1)))) ?_ ?_
    ·rcases bf ((decide (0 < t237)) || (decide (x1 < 0))) with hb999 | hb999
     ·have s1000 := bv s998 hb999
      have s1001 := p997.o (pg994.o (p965.o (p962.o (p959.o (p955.o (p951.o (p947.o (p943.o (p939.o (p935.o (p931.o (p927.o (p923.o (p919.o (p916.o (p902.o (p887.o (p883.o s881 rfl) rfl) rfl) rfl) rfl) rfl) rfl) rfl) rfl) rfl) rfl) rfl) rfl) rfl) rfl) rfl) rfl) rfl) rfl
      refine s1g p997.z (okMv s1001) rfl (yd p997.z rfl rfl s1000) fun a1002 p1003 s1004 => ?_
      have s1005 := p1003.o s1000 rfl
      refine s1g p1003.z (okGt s1004 cst) rfl (yd p1003.z rfl rfl s1005) fun a1006 p1007 s1008 => ?_
      have s1009 := p1007.o s1005 rfl
      refine s1 p1007.z (okPickF s1009 s1008) rfl fun a1010 p1011 s1012 => ?_
      exact rN ⟨rfl, rfl, ((((Pg.refl p997.z).st p1003 rfl).st p1007 rfl).st p1011 rfl), (orF hb999 s1012)⟩
     ·have s1013 := bv s998 hb999
      refine s1k p997.z rfl (yd p997.z rfl rfl s1013) rfl fun a1014 p1015 s1016 => ?_
      have s1017 := p1015.o s1013 rfl
      refine s1k p1015.z rfl (yd p1015.z rfl rfl s1017) rfl fun a1018 p1019 s1020 => ?_
      have s1021 := p1019.o s1017 rfl
      refine s1 p1019.z (okPickT s1021 cst) rfl fun a1022 p1023 s1024 => ?_
      exact rN ⟨rfl, rfl, ((((Pg.refl p997.z).st p1015 rfl).st p1019 rfl).st p1023 rfl), (orT hb999 s1024)⟩
    rintro a1025 ⟨pg1026, s1027⟩
    refine s1 pg1026.z (okMv s1027) rfl fun a1028 p1029 s1030 => ?_
    refine cutP 3 (fun a' => Pg Try.f3.ntmps [70, 71, 72] a1028 a' ∧ a'.eval (.tmp 72) = .bool ((((decide (0 < t237)) || (decide (x1 < 0))) || (decide (1 < x1))) || (t184 == 0))) ?_ ?_
    ·rcases bf (((decide (0 < t237)) || (decide (x1 < 0))) || (decide (1 < x1))) with hb1031 | hb1031
     ·have s1032 := bv s1030 hb1031
      have s1033 := p1029.o (pg1026.o (p997.o (pg994.o (p965.o (p962.o (p959.o (p955.o (p951.o (p947.o (p943.o (p939.o (p935.o (p931.o (p927.o (p923.o (p919.o (p916.o (p902.o (p887.o (p883.o (p879.o (p875.o (p871.o (pg275.o s256 rfl) rfl) rfl) rfl) rfl) rfl) rfl) rfl) rfl) rfl) rfl) rfl) rfl) rfl) rfl) rfl) rfl) rfl) rfl) rfl) rfl) rfl) rfl) rfl) rfl
      refine s1g p1029.z (okMv s1033) rfl (yd p1029.z rfl rfl s1032) fun a1034 p1035 s1036 => ?_
      have s1037 := p1035.o s1032 rfl
      refine s1g p1035.z (okEq s1036 cst) rfl (yd p1035.z rfl rfl s1037) fun a1038 p1039 s1040 => ?_
      have s1041 := p1039.o s1037 rfl
      refine s1 p1039.z (okPickF s1041 s1040) rfl fun a1042 p1043 s1044 => ?_
      exact rN ⟨rfl, rfl, ((((Pg.refl p1029.z).st p1035 rfl).st p1039 rfl).st p1043 rfl), (orF hb1031 s1044)⟩
     ·have s1045 := bv s1030 hb1031
      refine s1k p1029.z rfl (yd p1029.z rfl rfl s1045) rfl fun a1046 p1047 s1048 => ?_
      have s1049 := p1047.o s1045 rfl
      refine s1k p1047.z rfl (yd p1047.z rfl rfl s1049) rfl fun a1050 p1051 s1052 => ?_
      have s1053 := p1051.o s1049 rfl
      refine s1 p1051.z (okPickT s1053 cst) rfl fun a1054 p1055 s1056 => ?_
      exact rN ⟨rfl, rfl, ((((Pg.refl p1029.z).st p1047 rfl).st p1051 rfl).st p1055 rfl), (orT hb1031 s1056)⟩
    rintro a1057 ⟨pg1058, s1059⟩
    refine s1 pg1058.z (okMv s1059) rfl fun a1060 p1061 s1062 => ?_
    refine cutP 3 (fun a' => Pg Try.f3.ntmps [74, 75, 76] a1060 a' ∧ a'.eval (.tmp 76) = .bool (((((decide (0 < t237)) || (decide (x1 < 0))) || (decide (1 < x1))) || (t184 == 0)) || (decide (16 < t184)))) ?_ ?_
    ·rcases bf ((((decide (0 < t237)) || (decide (x1 < 0))) || (decide (1 < x1))) || (t184 == 0)) with hb1063 | hb1063
     ·have s1064 := bv s1062 hb1063
      have s1065 := p1061.o (pg1058.o (p1029.o (pg1026.o (p997.o (pg994.o (p965.o (p962.o (p959.o (p955.o (p951.o (p947.o (p943.o (p939.o (p935.o (p931.o (p927.o (p923.o (p919.o (p916.o (p902.o (p887.o (p883.o (p879.o (p875.o (p871.o (pg275.o s256 rfl) rfl) rfl) rfl) rfl) rfl) rfl) rfl) rfl) rfl) rfl) rfl) rfl) rfl) rfl) rfl) rfl) rfl) rfl) rfl) rfl) rfl) rfl) rfl) rfl) rfl) rfl
      refine s1g p1061.z (okMv s1065) rfl (yd p1061.z rfl rfl s1064) fun a1066 p1067 s1068 => ?_
      have s1069 := p1067.o s1064 rfl
      refine s1g p1067.z (okGt s1068 cst) rfl (yd p1067.z rfl rfl s1069) fun a1070 p1071 s1072 => ?_
      have s1073 := p1071.o s1069 rfl
      refine s1 p1071.z (okPickF s1073 s1072) rfl fun a1074 p1075 s1076 => ?_
      exact rN ⟨rfl, rfl, ((((Pg.refl p1061.z).st p1067 rfl).st p1071 rfl).st p1075 rfl), (orF hb1063 s1076)⟩
     ·have s1077 := bv s1062 hb1063
      refine s1k p1061.z rfl (yd p1061.z rfl rfl s1077) rfl fun a1078 p1079 s1080 => ?_
      have s1081 := p1079.o s1077 rfl
      refine s1k p1079.z rfl (yd p1079.z rfl rfl s1081) rfl fun a1082 p1083 s1084 => ?_
      have s1085 := p1083.o s1081 rfl
      refine s1 p1083.z (okPickT s1085 cst) rfl fun a1086 p1087 s1088 => ?_
      exact rN ⟨rfl, rfl, ((((Pg.refl p1061.z).st p1079 rfl).st p1083 rfl).st p1087 rfl), (orT hb1063 s1088)⟩
    rintro a1089 ⟨pg1090, s1091⟩
    refine s1 pg1090.z (okAs s1091) rfl fun a1092 p1093 s1094 => ?_
    refine rN (thenN ?_)
    refine wp_seq ?_
    refine wp_seq ?_
    refine reg ?_
    refine s1 p1093.z (okMv s1094) rfl fun a1095 p1096 s1097 => ?_
    refine s1 p1096.z (okNot s1097) rfl fun a1098 p1099 s1100 => ?_
    refine rN (thenN ?_)
    have s1101 := p1099.o (p1096.o (p1093.o (pg1090.o (p1061.o (pg1058.o (p1029.o (pg1026.o (p997.o (pg994.o (p965.o (p962.o (p959.o (p955.o (p951.o (p947.o (p943.o s940 rfl) rfl) rfl) rfl) rfl) rfl) rfl) rfl) rfl) rfl) rfl) rfl) rfl) rfl) rfl) rfl) rfl
    have s1102 := p1099.o (p1096.o (p1093.o (pg1090.o (p1061.o (pg1058.o (p1029.o (pg1026.o (p997.o (pg994.o (p965.o (p962.o (p959.o (p955.o (p951.o (p947.o s944 rfl) rfl) rfl) rfl) rfl) rfl) rfl) rfl) rfl) rfl) rfl) rfl) rfl) rfl) rfl) rfl
    have s1103 := p1099.o (p1096.o (p1093.o (pg1090.o (p1061.o (pg1058.o (p1029.o (pg1026.o (p997.o (pg994.o (p965.o (p962.o (p959.o (p955.o (p951.o s948 rfl) rfl) rfl) rfl) rfl) rfl) rfl) rfl) rfl) rfl) rfl) rfl) rfl) rfl) rfl
    have s1104 := p1099.o (p1096.o (p1093.o (pg1090.o (p1061.o (pg1058.o (p1029.o (pg1026.o (p997.o (pg994.o (p965.o (p962.o (p959.o (p955.o s952 rfl) rfl) rfl) rfl) rfl) rfl) rfl) rfl) rfl) rfl) rfl) rfl) rfl) rfl
    have s1105 := p1099.o (p1096.o (p1093.o (pg1090.o (p1061.o (pg1058.o (p1029.o (pg1026.o (p997.o (pg994.o (p965.o (p962.o (p959.o s956 rfl) rfl) rfl) rfl) rfl) rfl) rfl) rfl) rfl) rfl) rfl) rfl) rfl
    have pg1106 : Pg _ [17, 18, 19, 20, 21, 22, 47, 48, 49, 50, 51, 52, 53, 54, 55, 56, 57, 58, 59, 60, 61, 62, 63, 64, 65, 66, 67, 68, 69, 70, 71, 72, 73, 74, 75, 76, 77, 78] _ _ := (((((((((((((((((((((((((((((((Pg.refl pg275.z).st p871 rfl).st p875 rfl).st p879 rfl).st p883 rfl).st p887 rfl).st p902 rfl).st p916 rfl).st p919 rfl).st p923 rfl).st p927 rfl).st p931 rfl).st p935 rfl).st p939 rfl).st p943 rfl).st p947 rfl).st p951 rfl).st p955 rfl).st p959 rfl).st p962 rfl).st p965 rfl).tr pg994 rfl).st p997 rfl).tr pg1026 rfl).st p1029 rfl).tr pg1058 rfl).st p1061 rfl).tr pg1090 rfl).st p1093 rfl).st p1096 rfl).st p1099 rfl)
    refine cnd s1100 (fun hb1107 => ?_) (fun hb1107 => ?_)
    ·replace h := (ifP hb1107).symm.trans h
     refine wp_seq ?_
     refine reg ?_
     have s1108 := pg1106.o (pg275.o (pg261.o s29 rfl) rfl) rfl
     refine s1 pg1106.z (okMv s1108) rfl fun a1109 p1110 s1111 => ?_
     refine s1 p1110.z (okMv s1111) rfl fun a1112 p1113 s1114 => ?_
     refine cutP 3 (fun a' => Pg Try.f3.ntmps [81, 82, 83] a1112 a' ∧ a'.eval (.tmp 83) = .bool (t4 && ((t898.2.2.2.2).isN))) ?_ ?_
     ·rcases bf t4 with hb1115 | hb1115
      ·have s1116 := bv s1114 hb1115
       refine s1k p1113.z rfl (yd p1113.z rfl rfl s1116) rfl fun a1117 p1118 s1119 => ?_
       have s1120 := p1118.o s1116 rfl
       refine s1k p1118.z rfl (yd p1118.z rfl rfl s1120) rfl fun a1121 p1122 s1123 => ?_
       have s1124 := p1122.o s1120 rfl
       refine s1 p1122.z (okPickF s1124 cst) rfl fun a1125 p1126 s1127 => ?_
       exact rN ⟨rfl, rfl, ((((Pg.refl p1113.z).st p1118 rfl).st p1122 rfl).st p1126 rfl), (andF hb1115 s1127)⟩
      ·have s1128 := bv s1114 hb1115
       have s1129 := p1113.o (p1110.o s1105 rfl) rfl
       refine s1g p1113.z (okMv s1129) rfl (yd p1113.z rfl rfl s1128) fun a1130 p1131 s1132 => ?_
       have s1133 := p1131.o s1128 rfl
       refine s1g p1131.z (okEEqN ef33 s1132 q910 _) rfl (yd p1131.z rfl rfl s1133) fun a1134 p1135 s1136 => ?_
       have s1137 := p1135.o s1133 rfl
       refine s1 p1135.z (okPickT s1137 s1136) rfl fun a1138 p1139 s1140 => ?_
       exact rN ⟨rfl, rfl, ((((Pg.refl p1113.z).st p1131 rfl).st p1135 rfl).st p1139 rfl), (andT hb1115 s1140)⟩
     rintro a1141 ⟨pg1142, s1143⟩
     refine s1 pg1142.z (okMv s1143) rfl fun a1144 p1145 s1146 => ?_
     refine cutP 3 (fun a' => Pg Try.f3.ntmps [85, 86, 87] a1144 a' ∧ a'.eval (.tmp 87) = .bool ((t4 && ((t898.2.2.2.2).isN)) && (decide (0 ≤ t898.2.2.1)))) ?_ ?_
     ·rcases bf (t4 && ((t898.2.2.2.2).isN)) with hb1147 | hb1147
      ·have s1148 := bv s1146 hb1147
       refine s1k p1145.z rfl (yd p1145.z rfl rfl s1148) rfl fun a1149 p1150 s1151 => ?_
       have s1152 := p1150.o s1148 rfl
       refine s1k p1150.z rfl (yd p1150.z rfl rfl s1152) rfl fun a1153 p1154 s1155 => ?_
       have s1156 := p1154.o s1152 rfl
       refine s1 p1154.z (okPickF s1156 cst) rfl fun a1157 p1158 s1159 => ?_
       exact rN ⟨rfl, rfl, ((((Pg.refl p1145.z).st p1150 rfl).st p1154 rfl).st p1158 rfl), (andF hb1147 s1159)⟩
      ·have s1160 := bv s1146 hb1147
       have s1161 := p1145.o (pg1142.o (p1113.o (p1110.o s1103 rfl) rfl) rfl) rfl
       refine s1g p1145.z (okMv s1161) rfl (yd p1145.z rfl rfl s1160) fun a1162 p1163 s1164 => ?_
       have s1165 := p1163.o s1160 rfl
       refine s1g p1163.z (okGe s1164 cst) rfl (yd p1163.z rfl rfl s1165) fun a1166 p1167 s1168 => ?_
       have s1169 := p1167.o s1165 rfl
       refine s1 p1167.z (okPickT s1169 s1168) rfl fun a1170 p1171 s1172 => ?_
       exact rN ⟨rfl, rfl, ((((Pg.refl p1145.z).st p1163 rfl).st p1167 rfl).st p1171 rfl), (andT hb1147 s1172)⟩
     rintro a1173 ⟨pg1174, s1175⟩
     refine s1 pg1174.z (okMv s1175) rfl fun a1176 p1177 s1178 => ?_
     refine cutP 3 (fun a' => Pg Try.f3.ntmps [89, 90, 91] a1176 a' ∧ a'.eval (.tmp 91) = .bool (((t4 && ((t898.2.2.2.2).isN)) && (decide (0 ≤ t898.2.2.1))) && (decide (t898.2.2.1 ≤ 3)))) ?_ ?_
     ·rcases bf ((t4 && ((t898.2.2.2.2).isN)) && (decide (0 ≤ t898.2.2.1))) with hb1179 | hb1179
      ·have s1180 := bv s1178 hb1179
       refine s1k p1177.z rfl (yd p1177.z rfl rfl s1180) rfl fun a1181 p1182 s1183 => ?_
       have s1184 := p1182.o s1180 rfl
       refine s1k p1182.z rfl (yd p1182.z rfl rfl s1184) rfl fun a1185 p1186 s1187 => ?_
       have s1188 := p1186.o s1184 rfl
       refine s1 p1186.z (okPickF s1188 cst) rfl fun a1189 p1190 s1191 => ?_
       exact rN ⟨rfl, rfl, ((((Pg.refl p1177.z).st p1182 rfl).st p1186 rfl).st p1190 rfl), (andF hb1179 s1191)⟩
      ·have s1192 := bv s1178 hb1179
       have s1193 := p1177.o (pg1174.o (p1145.o (pg1142.o (p1113.o (p1110.o s1103 rfl) rfl) rfl) rfl) rfl) rfl
       refine s1g p1177.z (okMv s1193) rfl (yd p1177.z rfl rfl s1192) fun a1194 p1195 s1196 => ?_
       have s1197 := p1195.o s1192 rfl
       refine s1g p1195.z (okLe s1196 cst) rfl (yd p1195.z rfl rfl s1197) fun a1198 p1199 s1200 => ?_
       have s1201 := p1199.o s1197 rfl
       refine s1 p1199.z (okPickT s1201 s1200) rfl fun a1202 p1203 s1204 => ?_
       exact rN ⟨rfl, rfl, ((((Pg.refl p1177.z).st p1195 rfl).st p1199 rfl).st p1203 rfl), (andT hb1179 s1204)⟩
     rintro a1205 ⟨pg1206, s1207⟩
     refine s1 pg1206.z (okAs s1207) rfl fun a1208 p1209 s1210 => ?_
     refine rN (thenN ?_)
     obtain rfl := Option.some.inj h
     exact wp_ret (thenR (ret1 p1209.z Try.results3 (rvT s1210) ⟨_, rfl, rfl, cx914.g⟩))
    replace h := (ifN hb1107).symm.trans h
    refine wp_skip (thenN ?_)
    refine wp_seq ?_
    refine reg ?_
    have s1211 := pg1106.o (pg275.o (pg261.o s29 rfl) rfl) rfl
    refine s1 pg1106.z (okMv s1211) rfl fun a1212 p1213 s1214 => ?_
    refine s1 p1213.z (okMv s1214) rfl fun a1215 p1216 s1217 => ?_
    refine cutP 4 (fun a' => Pg Try.f3.ntmps [94, 95, 96, 97] a1215 a' ∧ a'.eval (.tmp 97) = .bool (t4 && (decide (t898.2.2.2.2 = .code 1)))) ?_ ?_
    ·rcases bf t4 with hb1218 | hb1218
     ·have s1219 := bv s1217 hb1218
      refine s1k p1216.z rfl (yd p1216.z rfl rfl s1219) rfl fun a1220 p1221 s1222 => ?_
      have s1223 := p1221.o s1219 rfl
      refine s1k p1221.z rfl (yd p1221.z rfl rfl s1223) rfl fun a1224 p1225 s1226 => ?_
      have s1227 := p1225.o s1223 rfl
      refine s1k p1225.z rfl (yd p1225.z rfl rfl s1227) rfl fun a1228 p1229 s1230 => ?_
      have s1231 := p1229.o s1227 rfl
      refine s1 p1229.z (okPickF s1231 cst) rfl fun a1232 p1233 s1234 => ?_
      exact rN ⟨rfl, rfl, (((((Pg.refl p1216.z).st p1221 rfl).st p1225 rfl).st p1229 rfl).st p1233 rfl), (andF hb1218 s1234)⟩
     ·have s1235 := bv s1217 hb1218
      have s1236 := p1216.o (p1213.o s1105 rfl) rfl
      refine s1g p1216.z (okMv s1236) rfl (yd p1216.z rfl rfl s1235) fun a1237 p1238 s1239 => ?_
      have s1240 := p1238.o s1235 rfl
      refine s1g p1238.z (okMkI Try.underlying36 cst _) rfl (yd p1238.z rfl rfl s1240) fun a1241 p1242 s1243 => ?_
      have s1244 := p1242.o s1240 rfl
      have s1245 := p1242.o s1239 rfl
      refine s1g p1242.z (okEEqC ef33 s1245 q910 s1243 _) rfl (yd p1242.z rfl rfl s1244) fun a1246 p1247 s1248 => ?_
      have s1249 := p1247.o s1244 rfl
      refine s1 p1247.z (okPickT s1249 s1248) rfl fun a1250 p1251 s1252 => ?_
      exact rN ⟨rfl, rfl, (((((Pg.refl p1216.z).st p1238 rfl).st p1242 rfl).st p1247 rfl).st p1251 rfl), (andT hb1218 s1252)⟩
    rintro a1253 ⟨pg1254, s1255⟩
    refine s1 pg1254.z (okMv s1255) rfl fun a1256 p1257 s1258 => ?_
    refine cutP 4 (fun a' => Pg Try.f3.ntmps [99, 100, 101, 102] a1256 a' ∧ a'.eval (.tmp 102) = .bool ((t4 && (decide (t898.2.2.2.2 = .code 1))) && ((t898.1.length : Int) == 0))) ?_ ?_
    ·rcases bf (t4 && (decide (t898.2.2.2.2 = .code 1))) with hb1259 | hb1259
     ·have s1260 := bv s1258 hb1259
      refine s1k p1257.z rfl (yd p1257.z rfl rfl s1260) rfl fun a1261 p1262 s1263 => ?_
      have s1264 := p1262.o s1260 rfl
      refine s1k p1262.z rfl (yd p1262.z rfl rfl s1264) rfl fun a1265 p1266 s1267 => ?_
      have s1268 := p1266.o s1264 rfl
      refine s1k p1266.z rfl (yd p1266.z rfl rfl s1268) rfl fun a1269 p1270 s1271 => ?_
      have s1272 := p1270.o s1268 rfl
      refine s1 p1270.z (okPickF s1272 cst) rfl fun a1273 p1274 s1275 => ?_
      exact rN ⟨rfl, rfl, (((((Pg.refl p1257.z).st p1262 rfl).st p1266 rfl).st p1270 rfl).st p1274 rfl), (andF hb1259 s1275)⟩
     ·have s1276 := bv s1258 hb1259
      have s1277 := p1257.o (pg1254.o (p1216.o (p1213.o s1101 rfl) rfl) rfl) rfl
      refine s1g p1257.z (okMv s1277) rfl (yd p1257.z rfl rfl s1276) fun a1278 p1279 s1280 => ?_
      have s1281 := p1279.o s1276 rfl
      refine s1g p1279.z (okLenR Try.underlying30 s1280 q908) rfl (yd p1279.z rfl rfl s1281) fun a1282 p1283 s1284 => ?_
      have s1285 := p1283.o s1281 rfl
      refine s1g p1283.z (okEq s1284 cst) rfl (yd p1283.z rfl rfl s1285) fun a1286 p1287 s1288 => ?_
      have s1289 := p1287.o s1285 rfl
      refine s1 p1287.z (okPickT s1289 s1288) rfl fun a1290 p1291 s1292 => ?_
      exact rN ⟨rfl, rfl, (((((Pg.refl p1257.z).st p1279 rfl).st p1283 rfl).st p1287 rfl).st p1291 rfl), (andT hb1259 s1292)⟩
    rintro a1293 ⟨pg1294, s1295⟩
    refine s1 pg1294.z (okMv s1295) rfl fun a1296 p1297 s1298 => ?_
    refine cutP 4 (fun a' => Pg Try.f3.ntmps [104, 105, 106, 107] a1296 a' ∧ a'.eval (.tmp 107) = .bool (((t4 && (decide (t898.2.2.2.2 = .code 1))) && ((t898.1.length : Int) == 0)) && ((t898.2.1.length : Int) == 0))) ?_ ?_
    ·rcases bf ((t4 && (decide (t898.2.2.2.2 = .code 1))) && ((t898.1.length : Int) == 0)) with hb1299 | hb1299
     ·have s1300 := bv s1298 hb1299
      refine s1k p1297.z rfl (yd p1297.z rfl rfl s1300) rfl fun a1301 p1302 s1303 => ?_
      have s1304 := p1302.o s1300 rfl
      refine s1k p1302.z rfl (yd p1302.z rfl rfl s1304) rfl fun a1305 p1306 s1307 => ?_
      have s1308 := p1306.o s1304 rfl
      refine s1k p1306.z rfl (yd p1306.z rfl rfl s1308) rfl fun a1309 p1310 s1311 => ?_
      have s1312 := p1310.o s1308 rfl
      refine s1 p1310.z (okPickF s1312 cst) rfl fun a1313 p1314 s1315 => ?_
      exact rN ⟨rfl, rfl, (((((Pg.refl p1297.z).st p1302 rfl).st p1306 rfl).st p1310 rfl).st p1314 rfl), (andF hb1299 s1315)⟩
     ·have s1316 := bv s1298 hb1299
      have s1317 := p1297.o (pg1294.o (p1257.o (pg1254.o (p1216.o (p1213.o s1102 rfl) rfl) rfl) rfl) rfl) rfl
      refine s1g p1297.z (okMv s1317) rfl (yd p1297.z rfl rfl s1316) fun a1318 p1319 s1320 => ?_
      have s1321 := p1319.o s1316 rfl
      refine s1g p1319.z (okLenR Try.underlying31 s1320 q909) rfl (yd p1319.z rfl rfl s1321) fun a1322 p1323 s1324 => ?_
      have s1325 := p1323.o s1321 rfl
      refine s1g p1323.z (okEq s1324 cst) rfl (yd p1323.z rfl rfl s1325) fun a1326 p1327 s1328 => ?_
      have s1329 := p1327.o s1325 rfl
      refine s1 p1327.z (okPickT s1329 s1328) rfl fun a1330 p1331 s1332 => ?_
      exact rN ⟨rfl, rfl, (((((Pg.refl p1297.z).st p1319 rfl).st p1323 rfl).st p1327 rfl).st p1331 rfl), (andT hb1299 s1332)⟩
    rintro a1333 ⟨pg1334, s1335⟩
    refine s1 pg1334.z (okMv s1335) rfl fun a1336 p1337 s1338 => ?_
    refine cutP 3 (fun a' => Pg Try.f3.ntmps [109, 110, 111] a1336 a' ∧ a'.eval (.tmp 111) = .bool ((((t4 && (decide (t898.2.2.2.2 = .code 1))) && ((t898.1.length : Int) == 0)) && ((t898.2.1.length : Int) == 0)) && (t898.2.2.1 == 0))) ?_ ?_
    ·rcases bf (((t4 && (decide (t898.2.2.2.2 = .code 1))) && ((t898.1.length : Int) == 0)) && ((t898.2.1.length : Int) == 0)) with hb1339 | hb1339
     ·have s1340 := bv s1338 hb1339
      refine s1k p1337.z rfl (yd p1337.z rfl rfl s1340) rfl fun a1341 p1342 s1343 => ?_
      have s1344 := p1342.o s1340 rfl
      refine s1k p1342.z rfl (yd p1342.z rfl rfl s1344) rfl fun a1345 p1346 s1347 => ?_
      have s1348 := p1346.o s1344 rfl
      refine s1 p1346.z (okPickF s1348 cst) rfl fun a1349 p1350 s1351 => ?_
      exact rN ⟨rfl, rfl, ((((Pg.refl p1337.z).st p1342 rfl).st p1346 rfl).st p1350 rfl), (andF hb1339 s1351)⟩
     ·have s1352 := bv s1338 hb1339
      have s1353 := p1337.o (pg1334.o (p1297.o (pg1294.o (p1257.o (pg1254.o (p1216.o (p1213.o s1103 rfl) rfl) rfl) rfl) rfl) rfl) rfl) rfl
      refine s1g p1337.z (okMv s1353) rfl (yd p1337.z rfl rfl s1352) fun a1354 p1355 s1356 => ?_
      have s1357 := p1355.o s1352 rfl
      refine s1g p1355.z (okEq s1356 cst) rfl (yd p1355.z rfl rfl s1357) fun a1358 p1359 s1360 => ?_
      have s1361 := p1359.o s1357 rfl
      refine s1 p1359.z (okPickT s1361 s1360) rfl fun a1362 p1363 s1364 => ?_
      exact rN ⟨rfl, rfl, ((((Pg.refl p1337.z).st p1355 rfl).st p1359 rfl).st p1363 rfl), (andT hb1339 s1364)⟩
    rintro a1365 ⟨pg1366, s1367⟩
    refine s1 pg1366.z (okMv s1367) rfl fun a1368 p1369 s1370 => ?_
    refine cutP 3 (fun a' => Pg Try.f3.ntmps [113, 114, 115] a1368 a' ∧ a'.eval (.tmp 115) = .bool (((((t4 && (decide (t898.2.2.2.2 = .code 1))) && ((t898.1.length : Int) == 0)) && ((t898.2.1.length : Int) == 0)) && (t898.2.2.1 == 0)) && (t898.2.2.2.1 == 0))) ?_ ?_
    ·rcases bf ((((t4 && (decide (t898.2.2.2.2 = .code 1))) && ((t898.1.length : Int) == 0)) && ((t898.2.1.length : Int) == 0)) && (t898.2.2.1 == 0)) with hb1371 | hb1371
     ·have s1372 := bv s1370 hb1371
      refine s1k p1369.z rfl (yd p1369.z rfl rfl s1372) rfl fun a1373 p1374 s1375 => ?_
      have s1376 := p1374.o s1372 rfl
      refine s1k p1374.z rfl (yd p1374.z rfl rfl s1376) rfl fun a1377 p1378 s1379 => ?_
      have s1380 := p1378.o s1376 rfl
      refine s1 p1378.z (okPickF s1380 cst) rfl fun a1381 p1382 s1383 => ?_
      exact rN ⟨rfl, rfl, ((((Pg.refl p1369.z).st p1374 rfl).st p1378 rfl).st p1382 rfl), (andF hb1371 s1383)⟩
     ·have s1384 := bv s1370 hb1371
      have s1385 := p1369.o (pg1366.o (p1337.o (pg1334.o (p1297.o (pg1294.o (p1257.o (pg1254.o (p1216.o (p1213.o s1104 rfl) rfl) rfl) rfl) rfl) rfl) rfl) rfl) rfl) rfl
      refine s1g p1369.z (okMv s1385) rfl (yd p1369.z rfl rfl s1384) fun a1386 p1387 s1388 => ?_
      have s1389 := p1387.o s1384 rfl
      refine s1g p1387.z (okEq s1388 cst) rfl (yd p1387.z rfl rfl s1389) fun a1390 p1391 s1392 => ?_
      have s1393 := p1391.o s1389 rfl
      refine s1 p1391.z (okPickT s1393 s1392) rfl fun a1394 p1395 s1396 => ?_
      exact rN ⟨rfl, rfl, ((((Pg.refl p1369.z).st p1387 rfl).st p1391 rfl).st p1395 rfl), (andT hb1371 s1396)⟩
    rintro a1397 ⟨pg1398, s1399⟩
    refine s1 pg1398.z (okMv s1399) rfl fun a1400 p1401 s1402 => ?_
    obtain ⟨b1403, hb1404, h⟩ := Option.bind_eq_some_iff.1 h
    refine cutL 4 (fun a' w' => Pg Try.f3.ntmps [117, 118, 119, 120] a1400 a' ∧ a'.eval (.tmp 120) = .bool b1403 ∧ G [] w901 w') ?_ ?_
    ·rcases bf (((((t4 && (decide (t898.2.2.2.2 = .code 1))) && ((t898.1.length : Int) == 0)) && ((t898.2.1.length : Int) == 0)) && (t898.2.2.1 == 0)) && (t898.2.2.2.1 == 0)) with hb1405 | hb1405
     ·have s1406 := bv s1402 hb1405
      replace hb1404 := (ifN hb1405).symm.trans hb1404
      clear h; have h := hb1404; clear hb1404
      refine s1k p1401.z rfl (yd p1401.z rfl rfl s1406) rfl fun a1407 p1408 s1409 => ?_
      have s1410 := p1408.o s1406 rfl
      refine s1k p1408.z rfl (yd p1408.z rfl rfl s1410) rfl fun a1411 p1412 s1413 => ?_
      have s1414 := p1412.o s1410 rfl
      refine s1k p1412.z rfl (yd p1412.z rfl rfl s1414) rfl fun a1415 p1416 s1417 => ?_
      have s1418 := p1416.o s1414 rfl
      refine s1 p1416.z (okPickF s1418 cst) rfl fun a1419 p1420 s1421 => ?_
      obtain rfl := Option.some.inj h
      exact rN ⟨rfl, (((((Pg.refl p1401.z).st p1408 rfl).st p1412 rfl).st p1416 rfl).st p1420 rfl), s1421, (G.refl _ _)⟩
     ·have s1422 := bv s1402 hb1405
      replace hb1404 := (ifP hb1405).symm.trans hb1404
      clear h; have h := hb1404; clear hb1404
      have s1423 := p1401.o (pg1398.o (p1369.o (pg1366.o (p1337.o (pg1334.o (p1297.o (pg1294.o (p1257.o (pg1254.o (p1216.o (p1213.o (pg1106.o (pg275.o s255 rfl) rfl) rfl) rfl) rfl) rfl) rfl) rfl) rfl) rfl) rfl) rfl) rfl) rfl
      refine s1g p1401.z (okMv s1423) rfl (yd p1401.z rfl rfl s1422) fun a1424 p1425 s1426 => ?_
      have s1427 := p1425.o s1422 rfl
      have m1428 := m897.g0 g913
      have q1429 := (((q202.t0 (tAp g208 (fun _ h => nilO h) f210) g208).t0 g244.t0 g244).t0 ((Tr.refl (ownB v204 ++ (oby70 :: (ownB hpy70_0 ++ L))) w240).sub (fun i h => (List.mem_append_right _ h))) (G.refl [] w240)).t0 g913.t0 g913
      obtain ⟨t1430, ht1431, h⟩ := Option.bind_eq_some_iff.1 h
      refine lG rfl (yd p1425.z rfl rfl s1427) (oCall p1425.z Try.call11 (ag1 s1426) (c11 L w901 y70 oby70 hpy70_0 cx914.lt (sepC (show ∀ x ∈ [oby70], x ∉ (ownB hpy70_0 ++ L) from (in1 (na (D148.bo (i := 0) (j := 1) rfl rfl rfl) (fun h => Nat.lt_irrefl _ (Nat.lt_of_lt_of_le (hL _ h) (Nat.le_trans cx50.g.sz (f67 _ (List.mem_append_left _ (.head _))))))))) (sepC (show ∀ x ∈ ownB hpy70_0, x ∉ L from (fun x hx => ((fun x hx hl => D148.dl (i := 1) rfl x hx hl) x hx))) sepN)) m1428 q1429 _ ht1431) rfl fun v1435 a1432 w1433 hp1436 p1434 sp1434 => ?_)
      obtain ⟨rfl, g1439⟩ := hp1436
      have cx1440 := cx914.ca g1439
      have s1441 := p1434.o s1427 rfl
      refine s1g p1434.z (okEq sp1434 cst) rfl (yd p1434.z rfl rfl s1441) fun a1442 p1443 s1444 => ?_
      have s1445 := p1443.o s1441 rfl
      refine s1 p1443.z (okPickT s1445 s1444) rfl fun a1446 p1447 s1448 => ?_
      obtain rfl := Option.some.inj h
      exact rN ⟨rfl, (((((Pg.refl p1401.z).st p1425 rfl).st p1434 rfl).st p1443 rfl).st p1447 rfl), s1448, g1439⟩
    rintro a1449 w1452 ⟨pg1450, s1451, g1453⟩
    have cx1454 := cx914.ca g1453
    refine s1 pg1450.z (okAs s1451) rfl fun a1455 p1456 s1457 => ?_
    refine rN (thenN ?_)
    obtain rfl := Option.some.inj h
    exact wp_ret (ret1 p1456.z Try.results3 (rvT s1457) ⟨_, rfl, rfl, cx1454.g⟩)
   replace h := (ifN hb262).symm.trans h
   refine wp_skip (thenN ?_)
   refine wp_seq ?_
   refine wp_seq ?_
   refine reg ?_
   refine s1 pg261.z (okMv s260) rfl fun a1458 p1459 s1460 => ?_
   refine s1 p1459.z (okEq s1460 cst) rfl fun a1461 p1462 s1463 => ?_
   refine rN (thenN ?_)
   refine cnd s1463 (fun hb1464 => ?_) (fun hb1464 => ?_)
   ·replace h := (ifP hb1464).symm.trans h
    refine reg ?_
    refine s1 p1462.z (okAs cst) rfl fun a1465 p1466 s1467 => ?_
    refine rN (thenN ?_)
    refine wp_seq ?_
    refine reg ?_
    have s1468 := p1466.o (p1462.o (p1459.o (pg261.o s27 rfl) rfl) rfl) rfl
    refine s1 p1466.z (okMv s1468) rfl fun a1469 p1470 s1471 => ?_
    have s1472 := p1470.o (p1466.o (p1462.o (p1459.o s258 rfl) rfl) rfl) rfl
    refine s1 p1470.z (okMv s1472) rfl fun a1473 p1474 s1475 => ?_
    have s1476 := p1474.o (p1470.o s1467 rfl) rfl
    refine s1 p1474.z (okMv s1476) rfl fun a1477 p1478 s1479 => ?_
    have s1480 := p1478.o (p1474.o (p1470.o (p1466.o (p1462.o (p1459.o (pg261.o (pg30.o s0_1 rfl) rfl) rfl) rfl) rfl) rfl) rfl) rfl
    refine s1 p1478.z (okMv s1480) rfl fun a1481 p1482 s1483 => ?_
    have s1484 := p1482.o (p1478.o (p1474.o (p1470.o (p1466.o (p1462.o (p1459.o s257 rfl) rfl) rfl) rfl) rfl) rfl) rfl
    refine s1 p1482.z (okMv s1484) rfl fun a1485 p1486 s1487 => ?_
    have s1488 := p1486.o (p1482.o (p1478.o (p1474.o s1471 rfl) rfl) rfl) rfl
    have s1489 := p1486.o (p1482.o (p1478.o s1475 rfl) rfl) rfl
    have s1490 := p1486.o (p1482.o s1479 rfl) rfl
    have s1491 := p1486.o s1483 rfl
    have q1492 := q207.t0 g244.t0 g244
    have q1493 : RdS KTFrame (oby70 :: (ownB hpy70_0 ++ L)) w240 v204 z199 := q1492.rd (fun i h => (List.mem_append_right _ h)) (fun b hb => (not_cons (fun e => n213 (e ▸ hb)) (not_app ((djs n214) _ hb) (nb211 _ hb))))
    have cx1494 := cx245.sub (fun i h => (List.mem_append_right _ h))
    have q1495 := q20.mono (((((((tAp g43 (fun _ h => nilO h) f45).trans ((Tr.refl (ownB v39 ++ L) w40).sub (fun i h => (List.mem_append_right _ h)))).trans t152).trans g191.t0).trans (tAp g208 (fun _ h => nilO h) f210)).trans g244.t0).trans ((Tr.refl (ownB v204 ++ (oby70 :: (ownB hpy70_0 ++ L))) w240).sub (fun i h => (List.mem_append_right _ h))))
    have m1496 := ((m201.g0 g208).g0 g244).g0 (G.refl [] w240)
    have q1497 := ((q202.t0 (tAp g208 (fun _ h => nilO h) f210) g208).t0 g244.t0 g244).t0 ((Tr.refl (ownB v204 ++ (oby70 :: (ownB hpy70_0 ++ L))) w240).sub (fun i h => (List.mem_append_right _ h))) (G.refl [] w240)
    obtain ⟨t1498, ht1499, h⟩ := Option.bind_eq_some_iff.1 h
    refine lS (oCall p1486.z Try.call10 (ag5 s1488 s1489 s1490 s1491 s1487) (c10_n2 L w240 x0 h0 y70 oby70 hpy70_0 x1 z199 v204 cx1494.lt (sepC (show ∀ x ∈ [oby70], x ∉ (ownB hpy70_0 ++ L) from (in1 (na (D148.bo (i := 0) (j := 1) rfl rfl rfl) (fun h => Nat.lt_irrefl _ (Nat.lt_of_lt_of_le (hL _ h) (Nat.le_trans cx50.g.sz (f67 _ (List.mem_append_left _ (.head _))))))))) (sepC (show ∀ x ∈ ownB hpy70_0, x ∉ L from (fun x hx => ((fun x hx hl => D148.dl (i := 1) rfl x hx hl) x hx))) sepN)) q1495 m1496 q1497 q1493 _ ht1499) rfl fun v1503 a1500 w1501 hp1504 p1502 sp1502 => ?_)
    obtain ⟨h1505, h1506, h1507, rfl, q1508, q1509, q1510, g1513⟩ := hp1504
    have cx1514 := cx1494.ca g1513
    refine s1 p1502.z (okMv sp1502) rfl fun a1515 p1516 s1517 => ?_
    refine s1 p1516.z (okExt (vs := [_, _, _, _, _]) s1517 rfl) rfl fun a1518 p1519 s1520 => ?_
    have s1521 := p1519.o s1517 rfl
    refine s1 p1519.z (okExt (vs := [_, _, _, _, _]) s1521 rfl) rfl fun a1522 p1523 s1524 => ?_
    have s1525 := p1523.o s1521 rfl
    refine s1 p1523.z (okExt (vs := [_, _, _, _, _]) s1525 rfl) rfl fun a1526 p1527 s1528 => ?_
    have s1529 := p1527.o s1525 rfl
    refine s1 p1527.z (okExt (vs := [_, _, _, _, _]) s1529 rfl) rfl fun a1530 p1531 s1532 => ?_
    have s1533 := p1531.o s1529 rfl
    refine s1 p1531.z (okExt (vs := [_, _, _, _, _]) s1533 rfl) rfl fun a1534 p1535 s1536 => ?_
    have s1537 := p1535.o (p1531.o (p1527.o (p1523.o s1520 rfl) rfl) rfl) rfl
    refine s1 p1535.z (okAs s1537) rfl fun a1538 p1539 s1540 => ?_
    have s1541 := p1539.o (p1535.o (p1531.o (p1527.o s1524 rfl) rfl) rfl) rfl
    refine s1 p1539.z (okAs s1541) rfl fun a1542 p1543 s1544 => ?_
    have s1545 := p1543.o (p1539.o (p1535.o (p1531.o s1528 rfl) rfl) rfl) rfl
    refine s1 p1543.z (okAs s1545) rfl fun a1546 p1547 s1548 => ?_
    have s1549 := p1547.o (p1543.o (p1539.o (p1535.o s1532 rfl) rfl) rfl) rfl
    refine s1 p1547.z (okAs s1549) rfl fun a1550 p1551 s1552 => ?_
    have s1553 := p1551.o (p1547.o (p1543.o (p1539.o s1536 rfl) rfl) rfl) rfl
    refine s1 p1551.z (okAs s1553) rfl fun a1554 p1555 s1556 => ?_
    refine rN (thenN ?_)
    refine wp_seq ?_
    refine reg ?_
    have s1557 := p1555.o (p1551.o (p1547.o (p1543.o (p1539.o (p1535.o (p1531.o (p1527.o (p1523.o (p1519.o (p1516.o (p1502.o (p1486.o (p1482.o (p1478.o (p1474.o (p1470.o (p1466.o (p1462.o (p1459.o s260 rfl) rfl) rfl) rfl) rfl) rfl) rfl) rfl) rfl) rfl) rfl) rfl) rfl) rfl) rfl) rfl) rfl) rfl) rfl) rfl
    refine s1 p1555.z (okMv s1557) rfl fun a1558 p1559 s1560 => ?_
    refine s1 p1559.z (okGt s1560 cst) rfl fun a1561 p1562 s1563 => ?_
    refine s1 p1562.z (okMv s1563) rfl fun a1564 p1565 s1566 => ?_
    refine cutP 3 (fun a' => Pg Try.f3.ntmps [62, 63, 64] a1564 a' ∧ a'.eval (.tmp 64) = .bool ((decide (0 < t237)) || (decide (x1 < 0)))) ?_ ?_
    ·rcases bf (decide (0 < t237)) with hb1567 | hb1567
     ·have s1568 := bv s1566 hb1567
      have s1569 := p1565.o (p1562.o (p1559.o (p1555.o (p1551.o (p1547.o (p1543.o (p1539.o (p1535.o (p1531.o (p1527.o (p1523.o (p1519.o (p1516.o (p1502.o (p1486.o (p1482.o s1480 rfl) rfl) rfl) rfl) rfl) rfl) rfl) rfl) rfl) rfl) rfl) rfl) rfl) rfl) rfl) rfl) rfl
      refine s1g p1565.z (okMv s1569) rfl (yd p1565.z rfl rfl s1568) fun a1570 p1571 s1572 => ?_
      have s1573 := p1571.o s1568 rfl
      refine s1g p1571.z (okLt s1572 cst) rfl (yd p1571.z rfl rfl s1573) fun a1574 p1575 s1576 => ?_
      have s1577 := p1575.o s1573 rfl
      refine s1 p1575.z (okPickF s1577 s1576) rfl fun a1578 p1579 s1580 => ?_
      exact rN ⟨rfl, rfl, ((((Pg.refl p1565.z).st p1571 rfl).st p1575 rfl).st p1579 rfl), (orF hb1567 s1580)⟩
     ·have s1581 := bv s1566 hb1567
      refine s1k p1565.z rfl (yd p1565.z rfl rfl s1581) rfl fun a1582 p1583 s1584 => ?_
      have s1585 := p1583.o s1581 rfl
      refine s1k p1583.z rfl (yd p1583.z rfl rfl s1585) rfl fun a1586 p1587 s1588 => ?_
      have s1589 := p1587.o s1585 rfl
      refine s1 p1587.z (okPickT s1589 cst) rfl fun a1590 p1591 s1592 => ?_
      exact rN ⟨rfl, rfl, ((((Pg.refl p1565.z).st p1583 rfl).st p1587 rfl).st p1591 rfl), (orT hb1567 s1592)⟩
    rintro a1593 ⟨pg1594, s1595⟩
    refine s1 pg1594.z (okMv s1595) rfl fun a1596 p1597 s1598 => ?_
    refine cutP 3 (fun a' => Pg Try.f3.ntmps [66, 67, 68] a1596 a' ∧ a'.eval (.tmp 68) = .bool (((decide (0 < t237)) || (decide (x1 < 0))) || (decide (1 < x1)))) ?_ ?_
    ·rcases bf ((decide (0 < t237)) || (decide (x1 < 0))) with hb1599 | hb1599
     ·have s1600 := bv s1598 hb1599
      have s1601 := p1597.o (pg1594.o (p1565.o (p1562.o (p1559.o (p1555.o (p1551.o (p1547.o (p1543.o (p1539.o (p1535.o (p1531.o (p1527.o (p1523.o (p1519.o (p1516.o (p1502.o (p1486.o (p1482.o s1480 rfl) rfl) rfl) rfl) rfl) rfl) rfl) rfl) rfl) rfl) rfl) rfl) rfl) rfl) rfl) rfl) rfl) rfl) rfl
      refine s1g p1597.z (okMv s1601) rfl (yd p1597.z rfl rfl s1600) fun a1602 p1603 s1604 => ?_
      have s1605 := p1603.o s1600 rfl
      refine s1g p1603.z (okGt s1604 cst) rfl (yd p1603.z rfl rfl s1605) fun a1606 p1607 s1608 => ?_
      have s1609 := p1607.o s1605 rfl
      refine s1 p1607.z (okPickF s1609 s1608) rfl fun a1610 p1611 s1612 => ?_
      exact rN ⟨rfl, rfl, ((((Pg.refl p1597.z).st p1603 rfl).st p1607 rfl).st p1611 rfl), (orF hb1599 s1612)⟩
     ·have s1613 := bv s1598 hb1599
      refine s1k p1597.z rfl (yd p1597.z rfl rfl s1613) rfl fun a1614 p1615 s1616 => ?_
      have s1617 := p1615.o s1613 rfl
      refine s1k p1615.z rfl (yd p1615.z rfl rfl s1617) rfl fun a1618 p1619 s1620 => ?_
      have s1621 := p1619.o s1617 rfl
      refine s1 p1619.z (okPickT s1621 cst) rfl fun a1622 p1623 s1624 => ?_
      exact rN ⟨rfl, rfl, ((((Pg.refl p1597.z).st p1615 rfl).st p1619 rfl).st p1623 rfl), (orT hb1599 s1624)⟩
    rintro a1625 ⟨pg1626, s1627⟩
    refine s1 pg1626.z (okMv s1627) rfl fun a1628 p1629 s1630 => ?_
    refine cutP 3 (fun a' => Pg Try.f3.ntmps [70, 71, 72] a1628 a' ∧ a'.eval (.tmp 72) = .bool ((((decide (0 < t237)) || (decide (x1 < 0))) || (decide (1 < x1))) || (t184 == 0))) ?_ ?_
    ·rcases bf (((decide (0 < t237)) || (decide (x1 < 0))) || (decide (1 < x1))) with hb1631 | hb1631
     ·have s1632 := bv s1630 hb1631
      have s1633 := p1629.o (pg1626.o (p1597.o (pg1594.o (p1565.o (p1562.o (p1559.o (p1555.o (p1551.o (p1547.o (p1543.o (p1539.o (p1535.o (p1531.o (p1527.o (p1523.o (p1519.o (p1516.o (p1502.o (p1486.o (p1482.o (p1478.o (p1474.o (p1470.o (p1466.o (p1462.o (p1459.o s256 rfl) rfl) rfl) rfl) rfl) rfl) rfl) rfl) rfl) rfl) rfl) rfl) rfl) rfl) rfl) rfl) rfl) rfl) rfl) rfl) rfl) rfl) rfl) rfl) rfl) rfl) rfl
      refine s1g p1629.z (okMv s1633) rfl (yd p1629.z rfl rfl s1632) fun a1634 p1635 s1636 => ?_
      have s1637 := p1635.o s1632 rfl
      refine s1g p1635.z (okEq s1636 cst) rfl (yd p1635.z rfl rfl s1637) fun a1638 p1639 s1640 => ?_
      have s1641 := p1639.o s1637 rfl
      refine s1 p1639.z (okPickF s1641 s1640) rfl fun a1642 p1643 s1644 => ?_
      exact rN ⟨rfl, rfl, ((((Pg.refl p1629.z).st p1635 rfl).st p1639 rfl).st p1643 rfl), (orF hb1631 s1644)⟩
     ·have s1645 := bv s1630 hb1631
      refine s1k p1629.z rfl (yd p1629.z rfl rfl s1645) rfl fun a1646 p1647 s1648 => ?_
      have s1649 := p1647.o s1645 rfl
      refine s1k p1647.z rfl (yd p1647.z rfl rfl s1649) rfl fun a1650 p1651 s1652 => ?_
      have s1653 := p1651.o s1649 rfl
      refine s1 p1651.z (okPickT s1653 cst) rfl fun a1654 p1655 s1656 => ?_
      exact rN ⟨rfl, rfl, ((((Pg.refl p1629.z).st p1647 rfl).st p1651 rfl).st p1655 rfl), (orT hb1631 s1656)⟩
    rintro a1657 ⟨pg1658, s1659⟩
    refine s1 pg1658.z (okMv s1659) rfl fun a1660 p1661 s1662 => ?_
    refine cutP 3 (fun a' => Pg Try.f3.ntmps [74, 75, 76] a1660 a' ∧ a'.eval (.tmp 76) = .bool (((((decide (0 < t237)) || (decide (x1 < 0))) || (decide (1 < x1))) || (t184 == 0)) || (decide (16 < t184)))) ?_ ?_
    ·rcases bf ((((decide (0 < t237)) || (decide (x1 < 0))) || (decide (1 < x1))) || (t184 == 0)) with hb1663 | hb1663
     ·have s1664 := bv s1662 hb1663
      have s1665 := p1661.o (pg1658.o (p1629.o (pg1626.o (p1597.o (pg1594.o (p1565.o (p1562.o (p1559.o (p1555.o (p1551.o (p1547.o (p1543.o (p1539.o (p1535.o (p1531.o (p1527.o (p1523.o (p1519.o (p1516.o (p1502.o (p1486.o (p1482.o (p1478.o (p1474.o (p1470.o (p1466.o (p1462.o (p1459.o s256 rfl) rfl) rfl) rfl) rfl) rfl) rfl) rfl) rfl) rfl) rfl) rfl) rfl) rfl) rfl) rfl) rfl) rfl) rfl) rfl) rfl) rfl) rfl) rfl) rfl) rfl) rfl) rfl) rfl
      refine s1g p1661.z (okMv s1665) rfl (yd p1661.z rfl rfl s1664) fun a1666 p1667 s1668 => ?_
      have s1669 := p1667.o s1664 rfl
      refine s1g p1667.z (okGt s1668 cst) rfl (yd p1667.z rfl rfl s1669) fun a1670 p1671 s1672 => ?_
      have s1673 := p1671.o s1669 rfl
      refine s1 p1671.z (okPickF s1673 s1672) rfl fun a1674 p1675 s1676 => ?_
      exact rN ⟨rfl, rfl, ((((Pg.refl p1661.z).st p1667 rfl).st p1671 rfl).st p1675 rfl), (orF hb1663 s1676)⟩
     ·have s1677 := bv s1662 hb1663
      refine s1k p1661.z rfl (yd p1661.z rfl rfl s1677) rfl fun a1678 p1679 s1680 => ?_
      have s1681 := p1679.o s1677 rfl
      refine s1k p1679.z rfl (yd p1679.z rfl rfl s1681) rfl fun a1682 p1683 s1684 => ?_
      have s1685 := p1683.o s1681 rfl
      refine s1 p1683.z (okPickT s1685 cst) rfl fun a1686 p1687 s1688 => ?_
      exact rN ⟨rfl, rfl, ((((Pg.refl p1661.z).st p1679 rfl).st p1683 rfl).st p1687 rfl), (orT hb1663 s1688)⟩
    rintro a1689 ⟨pg1690, s1691⟩
    refine s1 pg1690.z (okAs s1691) rfl fun a1692 p1693 s1694 => ?_
    refine rN (thenN ?_)
    refine wp_seq ?_
    refine wp_seq ?_
    refine reg ?_
    refine s1 p1693.z (okMv s1694) rfl fun a1695 p1696 s1697 => ?_
    refine s1 p1696.z (okNot s1697) rfl fun a1698 p1699 s1700 => ?_
    refine rN (thenN ?_)
    have s1701 := p1699.o (p1696.o (p1693.o (pg1690.o (p1661.o (pg1658.o (p1629.o (pg1626.o (p1597.o (pg1594.o (p1565.o (p1562.o (p1559.o (p1555.o (p1551.o (p1547.o (p1543.o s1540 rfl) rfl) rfl) rfl) rfl) rfl) rfl) rfl) rfl) rfl) rfl) rfl) rfl) rfl) rfl) rfl) rfl
    have s1702 := p1699.o (p1696.o (p1693.o (pg1690.o (p1661.o (pg1658.o (p1629.o (pg1626.o (p1597.o (pg1594.o (p1565.o (p1562.o (p1559.o (p1555.o (p1551.o (p1547.o s1544 rfl) rfl) rfl) rfl) rfl) rfl) rfl) rfl) rfl) rfl) rfl) rfl) rfl) rfl) rfl) rfl
    have s1703 := p1699.o (p1696.o (p1693.o (pg1690.o (p1661.o (pg1658.o (p1629.o (pg1626.o (p1597.o (pg1594.o (p1565.o (p1562.o (p1559.o (p1555.o (p1551.o s1548 rfl) rfl) rfl) rfl) rfl) rfl) rfl) rfl) rfl) rfl) rfl) rfl) rfl) rfl) rfl
    have s1704 := p1699.o (p1696.o (p1693.o (pg1690.o (p1661.o (pg1658.o (p1629.o (pg1626.o (p1597.o (pg1594.o (p1565.o (p1562.o (p1559.o (p1555.o s1552 rfl) rfl) rfl) rfl) rfl) rfl) rfl) rfl) rfl) rfl) rfl) rfl) rfl) rfl
    have s1705 := p1699.o (p1696.o (p1693.o (pg1690.o (p1661.o (pg1658.o (p1629.o (pg1626.o (p1597.o (pg1594.o (p1565.o (p1562.o (p1559.o s1556 rfl) rfl) rfl) rfl) rfl) rfl) rfl) rfl) rfl) rfl) rfl) rfl) rfl
    have pg1706 : Pg _ [15, 17, 18, 19, 20, 21, 22, 45, 46, 47, 48, 49, 50, 51, 52, 53, 54, 55, 56, 57, 58, 59, 60, 61, 62, 63, 64, 65, 66, 67, 68, 69, 70, 71, 72, 73, 74, 75, 76, 77, 78] _ _ := ((((((((((((((((((((((((((((((((((Pg.refl pg261.z).st p1459 rfl).st p1462 rfl).st p1466 rfl).st p1470 rfl).st p1474 rfl).st p1478 rfl).st p1482 rfl).st p1486 rfl).st p1502 rfl).st p1516 rfl).st p1519 rfl).st p1523 rfl).st p1527 rfl).st p1531 rfl).st p1535 rfl).st p1539 rfl).st p1543 rfl).st p1547 rfl).st p1551 rfl).st p1555 rfl).st p1559 rfl).st p1562 rfl).st p1565 rfl).tr pg1594 rfl).st p1597 rfl).tr pg1626 rfl).st p1629 rfl).tr pg1658 rfl).st p1661 rfl).tr pg1690 rfl).st p1693 rfl).st p1696 rfl).st p1699 rfl)
    refine cnd s1700 (fun hb1707 => ?_) (fun hb1707 => ?_)
    ·replace h := (ifP hb1707).symm.trans h
     refine wp_seq ?_
     refine reg ?_
     have s1708 := pg1706.o (pg261.o s29 rfl) rfl
     refine s1 pg1706.z (okMv s1708) rfl fun a1709 p1710 s1711 => ?_
     refine s1 p1710.z (okMv s1711) rfl fun a1712 p1713 s1714 => ?_
     refine cutP 3 (fun a' => Pg Try.f3.ntmps [81, 82, 83] a1712 a' ∧ a'.eval (.tmp 83) = .bool (t4 && ((t1498.2.2.2.2).isN))) ?_ ?_
     ·rcases bf t4 with hb1715 | hb1715
      ·have s1716 := bv s1714 hb1715
       refine s1k p1713.z rfl (yd p1713.z rfl rfl s1716) rfl fun a1717 p1718 s1719 => ?_
       have s1720 := p1718.o s1716 rfl
       refine s1k p1718.z rfl (yd p1718.z rfl rfl s1720) rfl fun a1721 p1722 s1723 => ?_
       have s1724 := p1722.o s1720 rfl
       refine s1 p1722.z (okPickF s1724 cst) rfl fun a1725 p1726 s1727 => ?_
       exact rN ⟨rfl, rfl, ((((Pg.refl p1713.z).st p1718 rfl).st p1722 rfl).st p1726 rfl), (andF hb1715 s1727)⟩
      ·have s1728 := bv s1714 hb1715
       have s1729 := p1713.o (p1710.o s1705 rfl) rfl
       refine s1g p1713.z (okMv s1729) rfl (yd p1713.z rfl rfl s1728) fun a1730 p1731 s1732 => ?_
       have s1733 := p1731.o s1728 rfl
       refine s1g p1731.z (okEEqN ef33 s1732 q1510 _) rfl (yd p1731.z rfl rfl s1733) fun a1734 p1735 s1736 => ?_
       have s1737 := p1735.o s1733 rfl
       refine s1 p1735.z (okPickT s1737 s1736) rfl fun a1738 p1739 s1740 => ?_
       exact rN ⟨rfl, rfl, ((((Pg.refl p1713.z).st p1731 rfl).st p1735 rfl).st p1739 rfl), (andT hb1715 s1740)⟩
     rintro a1741 ⟨pg1742, s1743⟩
     refine s1 pg1742.z (okMv s1743) rfl fun a1744 p1745 s1746 => ?_
     refine cutP 3 (fun a' => Pg Try.f3.ntmps [85, 86, 87] a1744 a' ∧ a'.eval (.tmp 87) = .bool ((t4 && ((t1498.2.2.2.2).isN)) && (decide (0 ≤ t1498.2.2.1)))) ?_ ?_
     ·rcases bf (t4 && ((t1498.2.2.2.2).isN)) with hb1747 | hb1747
      ·have s1748 := bv s1746 hb1747
       refine s1k p1745.z rfl (yd p1745.z rfl rfl s1748) rfl fun a1749 p1750 s1751 => ?_
       have s1752 := p1750.o s1748 rfl
       refine s1k p1750.z rfl (yd p1750.z rfl rfl s1752) rfl fun a1753 p1754 s1755 => ?_
       have s1756 := p1754.o s1752 rfl
       refine s1 p1754.z (okPickF s1756 cst) rfl fun a1757 p1758 s1759 => ?_
       exact rN ⟨rfl, rfl, ((((Pg.refl p1745.z).st p1750 rfl).st p1754 rfl).st p1758 rfl), (andF hb1747 s1759)⟩
      ·have s1760 := bv s1746 hb1747
       have s1761 := p1745.o (pg1742.o (p1713.o (p1710.o s1703 rfl) rfl) rfl) rfl
       refine s1g p1745.z (okMv s1761) rfl (yd p1745.z rfl rfl s1760) fun a1762 p1763 s1764 => ?_
       have s1765 := p1763.o s1760 rfl
       refine s1g p1763.z (okGe s1764 cst) rfl (yd p1763.z rfl rfl s1765) fun a1766 p1767 s1768 => ?_
       have s1769 := p1767.o s1765 rfl
       refine s1 p1767.z (okPickT s1769 s1768) rfl fun a1770 p1771 s1772 => ?_
       exact rN ⟨rfl, rfl, ((((Pg.refl p1745.z).st p1763 rfl).st p1767 rfl).st p1771 rfl), (andT hb1747 s1772)⟩
     rintro a1773 ⟨pg1774, s1775⟩
     refine s1 pg1774.z (okMv s1775) rfl fun a1776 p1777 s1778 => ?_
     refine cutP 3 (fun a' => Pg Try.f3.ntmps [89, 90, 91] a1776 a' ∧ a'.eval (.tmp 91) = .bool (((t4 && ((t1498.2.2.2.2).isN)) && (decide (0 ≤ t1498.2.2.1))) && (decide (t1498.2.2.1 ≤ 3)))) ?_ ?_
     ·rcases bf ((t4 && ((t1498.2.2.2.2).isN)) && (decide (0 ≤ t1498.2.2.1))) with hb1779 | hb1779
      ·have s1780 := bv s1778 hb1779
       refine s1k p1777.z rfl (yd p1777.z rfl rfl s1780) rfl fun a1781 p1782 s1783 => ?_
       have s1784 := p1782.o s1780 rfl
       refine s1k p1782.z rfl (yd p1782.z rfl rfl s1784) rfl fun a1785 p1786 s1787 => ?_
       have s1788 := p1786.o s1784 rfl
       refine s1 p1786.z (okPickF s1788 cst) rfl fun a1789 p1790 s1791 => ?_
       exact rN ⟨rfl, rfl, ((((Pg.refl p1777.z).st p1782 rfl).st p1786 rfl).st p1790 rfl), (andF hb1779 s1791)⟩
      ·have s1792 := bv s1778 hb1779
       have s1793 := p1777.o (pg1774.o (p1745.o (pg1742.o (p1713.o (p1710.o s1703 rfl) rfl) rfl) rfl) rfl) rfl
       refine s1g p1777.z (okMv s1793) rfl (yd p1777.z rfl rfl s1792) fun a1794 p1795 s1796 => ?_
       have s1797 := p1795.o s1792 rfl
       refine s1g p1795.z (okLe s1796 cst) rfl (yd p1795.z rfl rfl s1797) fun a1798 p1799 s1800 => ?_
       have s1801 := p1799.o s1797 rfl
       refine s1 p1799.z (okPickT s1801 s1800) rfl fun a1802 p1803 s1804 => ?_
       exact rN ⟨rfl, rfl, ((((Pg.refl p1777.z).st p1795 rfl).st p1799 rfl).st p1803 rfl), (andT hb1779 s1804)⟩
     rintro a1805 ⟨pg1806, s1807⟩
     refine s1 pg1806.z (okAs s1807) rfl fun a1808 p1809 s1810 => ?_
     refine rN (thenN ?_)
     obtain rfl := Option.some.inj h
     exact wp_ret (thenR (ret1 p1809.z Try.results3 (rvT s1810) ⟨_, rfl, rfl, cx1514.g⟩))
    replace h := (ifN hb1707).symm.trans h
    refine wp_skip (thenN ?_)
    refine wp_seq ?_
    refine reg ?_
    have s1811 := pg1706.o (pg261.o s29 rfl) rfl
    refine s1 pg1706.z (okMv s1811) rfl fun a1812 p1813 s1814 => ?_
    refine s1 p1813.z (okMv s1814) rfl fun a1815 p1816 s1817 => ?_
    refine cutP 4 (fun a' => Pg Try.f3.ntmps [94, 95, 96, 97] a1815 a' ∧ a'.eval (.tmp 97) = .bool (t4 && (decide (t1498.2.2.2.2 = .code 1)))) ?_ ?_
    ·rcases bf t4 with hb1818 | hb1818
     ·have s1819 := bv s1817 hb1818
      refine s1k p1816.z rfl (yd p1816.z rfl rfl s1819) rfl fun a1820 p1821 s1822 => ?_
      have s1823 := p1821.o s1819 rfl
      refine s1k p1821.z rfl (yd p1821.z rfl rfl s1823) rfl fun a1824 p1825 s1826 => ?_
      have s1827 := p1825.o s1823 rfl
      refine s1k p1825.z rfl (yd p1825.z rfl rfl s1827) rfl fun a1828 p1829 s1830 => ?_
      have s1831 := p1829.o s1827 rfl
      refine s1 p1829.z (okPickF s1831 cst) rfl fun a1832 p1833 s1834 => ?_
      exact rN ⟨rfl, rfl, (((((Pg.refl p1816.z).st p1821 rfl).st p1825 rfl).st p1829 rfl).st p1833 rfl), (andF hb1818 s1834)⟩
     ·have s1835 := bv s1817 hb1818
      have s1836 := p1816.o (p1813.o s1705 rfl) rfl
      refine s1g p1816.z (okMv s1836) rfl (yd p1816.z rfl rfl s1835) fun a1837 p1838 s1839 => ?_
      have s1840 := p1838.o s1835 rfl
      refine s1g p1838.z (okMkI Try.underlying36 cst _) rfl (yd p1838.z rfl rfl s1840) fun a1841 p1842 s1843 => ?_
      have s1844 := p1842.o s1840 rfl
      have s1845 := p1842.o s1839 rfl
      refine s1g p1842.z (okEEqC ef33 s1845 q1510 s1843 _) rfl (yd p1842.z rfl rfl s1844) fun a1846 p1847 s1848 => ?_
      have s1849 := p1847.o s1844 rfl
      refine s1 p1847.z (okPickT s1849 s1848) rfl fun a1850 p1851 s1852 => ?_
      exact rN ⟨rfl, rfl, (((((Pg.refl p1816.z).st p1838 rfl).st p1842 rfl).st p1847 rfl).st p1851 rfl), (andT hb1818 s1852)⟩
    rintro a1853 ⟨pg1854, s1855⟩
    refine s1 pg1854.z (okMv s1855) rfl fun a1856 p1857 s1858 => ?_
    refine cutP 4 (fun a' => Pg Try.f3.ntmps [99, 100, 101, 102] a1856 a' ∧ a'.eval (.tmp 102) = .bool ((t4 && (decide (t1498.2.2.2.2 = .code 1))) && ((t1498.1.length : Int) == 0))) ?_ ?_
    ·rcases bf (t4 && (decide (t1498.2.2.2.2 = .code 1))) with hb1859 | hb1859
     ·have s1860 := bv s1858 hb1859
      refine s1k p1857.z rfl (yd p1857.z rfl rfl s1860) rfl fun a1861 p1862 s1863 => ?_
      have s1864 := p1862.o s1860 rfl
      refine s1k p1862.z rfl (yd p1862.z rfl rfl s1864) rfl fun a1865 p1866 s1867 => ?_
      have s1868 := p1866.o s1864 rfl
      refine s1k p1866.z rfl (yd p1866.z rfl rfl s1868) rfl fun a1869 p1870 s1871 => ?_
      have s1872 := p1870.o s1868 rfl
      refine s1 p1870.z (okPickF s1872 cst) rfl fun a1873 p1874 s1875 => ?_
      exact rN ⟨rfl, rfl, (((((Pg.refl p1857.z).st p1862 rfl).st p1866 rfl).st p1870 rfl).st p1874 rfl), (andF hb1859 s1875)⟩
     ·have s1876 := bv s1858 hb1859
      have s1877 := p1857.o (pg1854.o (p1816.o (p1813.o s1701 rfl) rfl) rfl) rfl
      refine s1g p1857.z (okMv s1877) rfl (yd p1857.z rfl rfl s1876) fun a1878 p1879 s1880 => ?_
      have s1881 := p1879.o s1876 rfl
      refine s1g p1879.z (okLenR Try.underlying30 s1880 q1508) rfl (yd p1879.z rfl rfl s1881) fun a1882 p1883 s1884 => ?_
      have s1885 := p1883.o s1881 rfl
      refine s1g p1883.z (okEq s1884 cst) rfl (yd p1883.z rfl rfl s1885) fun a1886 p1887 s1888 => ?_
      have s1889 := p1887.o s1885 rfl
      refine s1 p1887.z (okPickT s1889 s1888) rfl fun a1890 p1891 s1892 => ?_
      exact rN ⟨rfl, rfl, (((((Pg.refl p1857.z).st p1879 rfl).st p1883 rfl).st p1887 rfl).st p1891 rfl), (andT hb1859 s1892)⟩
    rintro a1893 ⟨pg1894, s1895⟩
    refine s1 pg1894.z (okMv s1895) rfl fun a1896 p1897 s1898 => ?_
    refine cutP 4 (fun a' => Pg Try.f3.ntmps [104, 105, 106, 107] a1896 a' ∧ a'.eval (.tmp 107) = .bool (((t4 && (decide (t1498.2.2.2.2 = .code 1))) && ((t1498.1.length : Int) == 0)) && ((t1498.2.1.length : Int) == 0))) ?_ ?_
    ·rcases bf ((t4 && (decide (t1498.2.2.2.2 = .code 1))) && ((t1498.1.length : Int) == 0)) with hb1899 | hb1899
     ·have s1900 := bv s1898 hb1899
      refine s1k p1897.z rfl (yd p1897.z rfl rfl s1900) rfl fun a1901 p1902 s1903 => ?_
      have s1904 := p1902.o s1900 rfl
      refine s1k p1902.z rfl (yd p1902.z rfl rfl s1904) rfl fun a1905 p1906 s1907 => ?_
      have s1908 := p1906.o s1904 rfl
      refine s1k p1906.z rfl (yd p1906.z rfl rfl s1908) rfl fun a1909 p1910 s1911 => ?_
      have s1912 := p1910.o s1908 rfl
      refine s1 p1910.z (okPickF s1912 cst) rfl fun a1913 p1914 s1915 => ?_
      exact rN ⟨rfl, rfl, (((((Pg.refl p1897.z).st p1902 rfl).st p1906 rfl).st p1910 rfl).st p1914 rfl), (andF hb1899 s1915)⟩
     ·have s1916 := bv s1898 hb1899
      have s1917 := p1897.o (pg1894.o (p1857.o (pg1854.o (p1816.o (p1813.o s1702 rfl) rfl) rfl) rfl) rfl) rfl
      refine s1g p1897.z (okMv s1917) rfl (yd p1897.z rfl rfl s1916) fun a1918 p1919 s1920 => ?_
      have s1921 := p1919.o s1916 rfl
      refine s1g p1919.z (okLenR Try.underlying31 s1920 q1509) rfl (yd p1919.z rfl rfl s1921) fun a1922 p1923 s1924 => ?_
      have s1925 := p1923.o s1921 rfl
      refine s1g p1923.z (okEq s1924 cst) rfl (yd p1923.z rfl rfl s1925) fun a1926 p1927 s1928 => ?_
      have s1929 := p1927.o s1925 rfl
      refine s1 p1927.z (okPickT s1929 s1928) rfl fun a1930 p1931 s1932 => ?_
      exact rN ⟨rfl, rfl, (((((Pg.refl p1897.z).st p1919 rfl).st p1923 rfl).st p1927 rfl).st p1931 rfl), (andT hb1899 s1932)⟩
    rintro a1933 ⟨pg1934, s1935⟩
    refine s1 pg1934.z (okMv s1935) rfl fun a1936 p1937 s1938 => ?_
    refine cutP 3 (fun a' => Pg Try.f3.ntmps [109, 110, 111] a1936 a' ∧ a'.eval (.tmp 111) = .bool ((((t4 && (decide (t1498.2.2.2.2 = .code 1))) && ((t1498.1.length : Int) == 0)) && ((t1498.2.1.length : Int) == 0)) && (t1498.2.2.1 == 0))) ?_ ?_
    ·rcases bf (((t4 && (decide (t1498.2.2.2.2 = .code 1))) && ((t1498.1.length : Int) == 0)) && ((t1498.2.1.length : Int) == 0)) with hb1939 | hb1939
     ·have s1940 := bv s1938 hb1939
      refine s1k p1937.z rfl (yd p1937.z rfl rfl s1940) rfl fun a1941 p1942 s1943 => ?_
      have s1944 := p1942.o s1940 rfl
      refine s1k p1942.z rfl (yd p1942.z rfl rfl s1944) rfl fun a1945 p1946 s1947 => ?_
      have s1948 := p1946.o s1944 rfl
      refine s1 p1946.z (okPickF s1948 cst) rfl fun a1949 p1950 s1951 => ?_
      exact rN ⟨rfl, rfl, ((((Pg.refl p1937.z).st p1942 rfl).st p1946 rfl).st p1950 rfl), (andF hb1939 s1951)⟩
     ·have s1952 := bv s1938 hb1939
      have s1953 := p1937.o (pg1934.o (p1897.o (pg1894.o (p1857.o (pg1854.o (p1816.o (p1813.o s1703 rfl) rfl) rfl) rfl) rfl) rfl) rfl) rfl
      refine s1g p1937.z (okMv s1953) rfl (yd p1937.z rfl rfl s1952) fun a1954 p1955 s1956 => ?_
      have s1957 := p1955.o s1952 rfl
      refine s1g p1955.z (okEq s1956 cst) rfl (yd p1955.z rfl rfl s1957) fun a1958 p1959 s1960 => ?_
      have s1961 := p1959.o s1957 rfl
      refine s1 p1959.z (okPickT s1961 s1960) rfl fun a1962 p1963 s1964 => ?_
      exact rN ⟨rfl, rfl, ((((Pg.refl p1937.z).st p1955 rfl).st p1959 rfl).st p1963 rfl), (andT hb1939 s1964)⟩
    rintro a1965 ⟨pg1966, s1967⟩
    refine s1 pg1966.z (okMv s1967) rfl fun a1968 p1969 s1970 => ?_
    refine cutP 3 (fun a' => Pg Try.f3.ntmps [113, 114, 115] a1968 a' ∧ a'.eval (.tmp 115) = .bool (((((t4 && (decide (t1498.2.2.2.2 = .code 1))) && ((t1498.1.length : Int) == 0)) && ((t1498.2.1.length : Int) == 0)) && (t1498.2.2.1 == 0)) && (t1498.2.2.2.1 == 0))) ?_ ?_
    ·rcases bf ((((t4 && (decide (t1498.2.2.2.2 = .code 1))) && ((t1498.1.length : Int) == 0)) && ((t1498.2.1.length : Int) == 0)) && (t1498.2.2.1 == 0)) with hb1971 | hb1971
     ·have s1972 := bv s1970 hb1971
      refine s1k p1969.z rfl (yd p1969.z rfl rfl s1972) rfl fun a1973 p1974 s1975 => ?_
      have s1976 := p1974.o s1972 rfl
      refine s1k p1974.z rfl (yd p1974.z rfl rfl s1976) rfl fun a1977 p1978 s1979 => ?_
      have s1980 := p1978.o s1976 rfl
      refine s1 p1978.z (okPickF s1980 cst) rfl fun a1981 p1982 s1983 => ?_
      exact rN ⟨rfl, rfl, ((((Pg.refl p1969.z).st p1974 rfl).st p1978 rfl).st p1982 rfl), (andF hb1971 s1983)⟩
     ·have s1984 := bv s1970 hb1971
      have s1985 := p1969.o (pg1966.o (p1937.o (pg1934.o (p1897.o (pg1894.o (p1857.o (pg1854.o (p1816.o (p1813.o s1704 rfl) rfl) rfl) rfl) rfl) rfl) rfl) rfl) rfl) rfl
      refine s1g p1969.z (okMv s1985) rfl (yd p1969.z rfl rfl s1984) fun a1986 p1987 s1988 => ?_
      have s1989 := p1987.o s1984 rfl
      refine s1g p1987.z (okEq s1988 cst) rfl (yd p1987.z rfl rfl s1989) fun a1990 p1991 s1992 => ?_
      have s1993 := p1991.o s1989 rfl
      refine s1 p1991.z (okPickT s1993 s1992) rfl fun a1994 p1995 s1996 => ?_
      exact rN ⟨rfl, rfl, ((((Pg.refl p1969.z).st p1987 rfl).st p1991 rfl).st p1995 rfl), (andT hb1971 s1996)⟩
    rintro a1997 ⟨pg1998, s1999⟩
    refine s1 pg1998.z (okMv s1999) rfl fun a2000 p2001 s2002 => ?_
    obtain ⟨b2003, hb2004, h⟩ := Option.bind_eq_some_iff.1 h
    refine cutL 4 (fun a' w' => Pg Try.f3.ntmps [117, 118, 119, 120] a2000 a' ∧ a'.eval (.tmp 120) = .bool b2003 ∧ G [] w1501 w') ?_ ?_
    ·rcases bf (((((t4 && (decide (t1498.2.2.2.2 = .code 1))) && ((t1498.1.length : Int) == 0)) && ((t1498.2.1.length : Int) == 0)) && (t1498.2.2.1 == 0)) && (t1498.2.2.2.1 == 0)) with hb2005 | hb2005
     ·have s2006 := bv s2002 hb2005
      replace hb2004 := (ifN hb2005).symm.trans hb2004
      clear h; have h := hb2004; clear hb2004
      refine s1k p2001.z rfl (yd p2001.z rfl rfl s2006) rfl fun a2007 p2008 s2009 => ?_
      have s2010 := p2008.o s2006 rfl
      refine s1k p2008.z rfl (yd p2008.z rfl rfl s2010) rfl fun a2011 p2012 s2013 => ?_
      have s2014 := p2012.o s2010 rfl
      refine s1k p2012.z rfl (yd p2012.z rfl rfl s2014) rfl fun a2015 p2016 s2017 => ?_
      have s2018 := p2016.o s2014 rfl
      refine s1 p2016.z (okPickF s2018 cst) rfl fun a2019 p2020 s2021 => ?_
      obtain rfl := Option.some.inj h
      exact rN ⟨rfl, (((((Pg.refl p2001.z).st p2008 rfl).st p2012 rfl).st p2016 rfl).st p2020 rfl), s2021, (G.refl _ _)⟩
     ·have s2022 := bv s2002 hb2005
      replace hb2004 := (ifP hb2005).symm.trans hb2004
      clear h; have h := hb2004; clear hb2004
      have s2023 := p2001.o (pg1998.o (p1969.o (pg1966.o (p1937.o (pg1934.o (p1897.o (pg1894.o (p1857.o (pg1854.o (p1816.o (p1813.o (pg1706.o s255 rfl) rfl) rfl) rfl) rfl) rfl) rfl) rfl) rfl) rfl) rfl) rfl) rfl
      refine s1g p2001.z (okMv s2023) rfl (yd p2001.z rfl rfl s2022) fun a2024 p2025 s2026 => ?_
      have s2027 := p2025.o s2022 rfl
      have m2028 := m1496.g0 g1513
      have q2029 := q1497.t0 g1513.t0 g1513
      obtain ⟨t2030, ht2031, h⟩ := Option.bind_eq_some_iff.1 h
      refine lG rfl (yd p2025.z rfl rfl s2027) (oCall p2025.z Try.call11 (ag1 s2026) (c11 L w1501 y70 oby70 hpy70_0 cx1514.lt (sepC (show ∀ x ∈ [oby70], x ∉ (ownB hpy70_0 ++ L) from (in1 (na (D148.bo (i := 0) (j := 1) rfl rfl rfl) (fun h => Nat.lt_irrefl _ (Nat.lt_of_lt_of_le (hL _ h) (Nat.le_trans cx50.g.sz (f67 _ (List.mem_append_left _ (.head _))))))))) (sepC (show ∀ x ∈ ownB hpy70_0, x ∉ L from (fun x hx => ((fun x hx hl => D148.dl (i := 1) rfl x hx hl) x hx))) sepN)) m2028 q2029 _ ht2031) rfl fun v2035 a2032 w2033 hp2036 p2034 sp2034 => ?_)
      obtain ⟨rfl, g2039⟩ := hp2036
      have cx2040 := cx1514.ca g2039
      have s2041 := p2034.o s2027 rfl
      refine s1g p2034.z (okEq sp2034 cst) rfl (yd p2034.z rfl rfl s2041) fun a2042 p2043 s2044 => ?_
      have s2045 := p2043.o s2041 rfl
      refine s1 p2043.z (okPickT s2045 s2044) rfl fun a2046 p2047 s2048 => ?_
      obtain rfl := Option.some.inj h
      exact rN ⟨rfl, (((((Pg.refl p2001.z).st p2025 rfl).st p2034 rfl).st p2043 rfl).st p2047 rfl), s2048, g2039⟩
    rintro a2049 w2052 ⟨pg2050, s2051, g2053⟩
    have cx2054 := cx1514.ca g2053
    refine s1 pg2050.z (okAs s2051) rfl fun a2055 p2056 s2057 => ?_
    refine rN (thenN ?_)
    obtain rfl := Option.some.inj h
    exact wp_ret (ret1 p2056.z Try.results3 (rvT s2057) ⟨_, rfl, rfl, cx2054.g⟩)
   replace h := (ifN hb1464).symm.trans h
   refine wp_skip (thenN ?_)
   refine wp_seq ?_
   refine reg ?_
   have s2058 := p1462.o (p1459.o (pg261.o s27 rfl) rfl) rfl
   refine s1 p1462.z (okMv s2058) rfl fun a2059 p2060 s2061 => ?_
   have s2062 := p2060.o (p1462.o (p1459.o s258 rfl) rfl) rfl
   refine s1 p2060.z (okMv s2062) rfl fun a2063 p2064 s2065 => ?_
   have s2066 := p2064.o (p2060.o (p1462.o (p1459.o s259 rfl) rfl) rfl) rfl
   refine s1 p2064.z (okMv s2066) rfl fun a2067 p2068 s2069 => ?_
   have s2070 := p2068.o (p2064.o (p2060.o (p1462.o (p1459.o (pg261.o (pg30.o s0_1 rfl) rfl) rfl) rfl) rfl) rfl) rfl
   refine s1 p2068.z (okMv s2070) rfl fun a2071 p2072 s2073 => ?_
   have s2074 := p2072.o (p2068.o (p2064.o (p2060.o (p1462.o (p1459.o s257 rfl) rfl) rfl) rfl) rfl) rfl
   refine s1 p2072.z (okMv s2074) rfl fun a2075 p2076 s2077 => ?_
   have s2078 := p2076.o (p2072.o (p2068.o (p2064.o s2061 rfl) rfl) rfl) rfl
   have s2079 := p2076.o (p2072.o (p2068.o s2065 rfl) rfl) rfl
   have s2080 := p2076.o (p2072.o s2069 rfl) rfl
   have s2081 := p2076.o s2073 rfl
   have q2082 := q207.t0 g244.t0 g244
   have q2083 : RdS KTFrame (oby70 :: (ownB hpy70_0 ++ L)) w240 v204 z199 := q2082.rd (fun i h => (List.mem_append_right _ h)) (fun b hb => (not_cons (fun e => n213 (e ▸ hb)) (not_app ((djs n214) _ hb) (nb211 _ hb))))
   have cx2084 := cx245.sub (fun i h => (List.mem_append_right _ h))
   have q2085 := q20.mono (((((((tAp g43 (fun _ h => nilO h) f45).trans ((Tr.refl (ownB v39 ++ L) w40).sub (fun i h => (List.mem_append_right _ h)))).trans t152).trans g191.t0).trans (tAp g208 (fun _ h => nilO h) f210)).trans g244.t0).trans ((Tr.refl (ownB v204 ++ (oby70 :: (ownB hpy70_0 ++ L))) w240).sub (fun i h => (List.mem_append_right _ h))))
   have m2086 := ((m201.g0 g208).g0 g244).g0 (G.refl [] w240)
   have q2087 := ((q202.t0 (tAp g208 (fun _ h => nilO h) f210) g208).t0 g244.t0 g244).t0 ((Tr.refl (ownB v204 ++ (oby70 :: (ownB hpy70_0 ++ L))) w240).sub (fun i h => (List.mem_append_right _ h))) (G.refl [] w240)
   obtain ⟨t2088, ht2089, h⟩ := Option.bind_eq_some_iff.1 h
   refine lS (oCall p2076.z Try.call10 (ag5 s2078 s2079 s2080 s2081 s2077) (c10_n2 L w240 x0 h0 y70 oby70 hpy70_0 x1 z199 v204 cx2084.lt (sepC (show ∀ x ∈ [oby70], x ∉ (ownB hpy70_0 ++ L) from (in1 (na (D148.bo (i := 0) (j := 1) rfl rfl rfl) (fun h => Nat.lt_irrefl _ (Nat.lt_of_lt_of_le (hL _ h) (Nat.le_trans cx50.g.sz (f67 _ (List.mem_append_left _ (.head _))))))))) (sepC (show ∀ x ∈ ownB hpy70_0, x ∉ L from (fun x hx => ((fun x hx hl => D148.dl (i := 1) rfl x hx hl) x hx))) sepN)) q2085 m2086 q2087 q2083 _ ht2089) rfl fun v2093 a2090 w2091 hp2094 p2092 sp2092 => ?_)
   obtain ⟨h2095, h2096, h2097, rfl, q2098, q2099, q2100, g2103⟩ := hp2094
   have cx2104 := cx2084.ca g2103
   refine s1 p2092.z (okMv sp2092) rfl fun a2105 p2106 s2107 => ?_
   refine s1 p2106.z (okExt (vs := [_, _, _, _, _]) s2107 rfl) rfl fun a2108 p2109 s2110 => ?_
   have s2111 := p2109.o s2107 rfl
   refine s1 p2109.z (okExt (vs := [_, _, _, _, _]) s2111 rfl) rfl fun a2112 p2113 s2114 => ?_
   have s2115 := p2113.o s2111 rfl
   refine s1 p2113.z (okExt (vs := [_, _, _, _, _]) s2115 rfl) rfl fun a2116 p2117 s2118 => ?_
   have s2119 := p2117.o s2115 rfl
   refine s1 p2117.z (okExt (vs := [_, _, _, _, _]) s2119 rfl) rfl fun a2120 p2121 s2122 => ?_
   have s2123 := p2121.o s2119 rfl
   refine s1 p2121.z (okExt (vs := [_, _, _, _, _]) s2123 rfl) rfl fun a2124 p2125 s2126 => ?_
   have s2127 := p2125.o (p2121.o (p2117.o (p2113.o s2110 rfl) rfl) rfl) rfl
   refine s1 p2125.z (okAs s2127) rfl fun a2128 p2129 s2130 => ?_
   have s2131 := p2129.o (p2125.o (p2121.o (p2117.o s2114 rfl) rfl) rfl) rfl
   refine s1 p2129.z (okAs s2131) rfl fun a2132 p2133 s2134 => ?_
   have s2135 := p2133.o (p2129.o (p2125.o (p2121.o s2118 rfl) rfl) rfl) rfl
   refine s1 p2133.z (okAs s2135) rfl fun a2136 p2137 s2138 => ?_
   have s2139 := p2137.o (p2133.o (p2129.o (p2125.o s2122 rfl) rfl) rfl) rfl
   refine s1 p2137.z (okAs s2139) rfl fun a2140 p2141 s2142 => ?_
   have s2143 := p2141.o (p2137.o (p2133.o (p2129.o s2126 rfl) rfl) rfl) rfl
   refine s1 p2141.z (okAs s2143) rfl fun a2144 p2145 s2146 => ?_
   refine rN (thenN ?_)
   refine wp_seq ?_
   refine reg ?_
   have s2147 := p2145.o (p2141.o (p2137.o (p2133.o (p2129.o (p2125.o (p2121.o (p2117.o (p2113.o (p2109.o (p2106.o (p2092.o (p2076.o (p2072.o (p2068.o (p2064.o (p2060.o (p1462.o (p1459.o s260 rfl) rfl) rfl) rfl) rfl) rfl) rfl) rfl) rfl) rfl) rfl) rfl) rfl) rfl) rfl) rfl) rfl) rfl) rfl
   refine s1 p2145.z (okMv s2147) rfl fun a2148 p2149 s2150 => ?_
   refine s1 p2149.z (okGt s2150 cst) rfl fun a2151 p2152 s2153 => ?_
   refine s1 p2152.z (okMv s2153) rfl fun a2154 p2155 s2156 => ?_
   refine cutP 3 (fun a' => Pg Try.f3.ntmps [62, 63, 64] a2154 a' ∧ a'.eval (.tmp 64) = .bool ((decide (0 < t237)) || (decide (x1 < 0)))) ?_ ?_
   ·rcases bf (decide (0 < t237)) with hb2157 | hb2157
    ·have s2158 := bv s2156 hb2157
     have s2159 := p2155.o (p2152.o (p2149.o (p2145.o (p2141.o (p2137.o (p2133.o (p2129.o (p2125.o (p2121.o (p2117.o (p2113.o (p2109.o (p2106.o (p2092.o (p2076.o (p2072.o s2070 rfl) rfl) rfl) rfl) rfl) rfl) rfl) rfl) rfl) rfl) rfl) rfl) rfl) rfl) rfl) rfl) rfl
     refine s1g p2155.z (okMv s2159) rfl (yd p2155.z rfl rfl s2158) fun a2160 p2161 s2162 => ?_
     have s2163 := p2161.o s2158 rfl
     refine s1g p2161.z (okLt s2162 cst) rfl (yd p2161.z rfl rfl s2163) fun a2164 p2165 s2166 => ?_
     have s2167 := p2165.o s2163 rfl
     refine s1 p2165.z (okPickF s2167 s2166) rfl fun a2168 p2169 s2170 => ?_
     exact rN ⟨rfl, rfl, ((((Pg.refl p2155.z).st p2161 rfl).st p2165 rfl).st p2169 rfl), (orF hb2157 s2170)⟩
    ·have s2171 := bv s2156 hb2157
     refine s1k p2155.z rfl (yd p2155.z rfl rfl s2171) rfl fun a2172 p2173 s2174 => ?_
     have s2175 := p2173.o s2171 rfl
     refine s1k p2173.z rfl (yd p2173.z rfl rfl s2175) rfl fun a2176 p2177 s2178 => ?_
     have s2179 := p2177.o s2175 rfl
     refine s1 p2177.z (okPickT s2179 cst) rfl fun a2180 p2181 s2182 => ?_
     exact rN ⟨rfl, rfl, ((((Pg.refl p2155.z).st p2173 rfl).st p2177 rfl).st p2181 rfl), (orT hb2157 s2182)⟩
   rintro a2183 ⟨pg2184, s2185⟩
   refine s1 pg2184.z (okMv s2185) rfl fun a2186 p2187 s2188 => ?_
   refine cutP 3 (fun a' => Pg Try.f3.ntmps [66, 67, 68] a2186 a' ∧ a'.eval (.tmp 68) = .bool (((decide (0 < t237)) || (decide (x1 < 0))) || (decide (1 < x1)))) ?_ ?_
   ·rcases bf ((decide (0 < t237)) || (decide (x1 < 0))) with hb2189 | hb2189
    ·have s2190 := bv s2188 hb2189
     have s2191 := p2187.o (pg2184.o (p2155.o (p2152.o (p2149.o (p2145.o (p2141.o (p2137.o (p2133.o (p2129.o (p2125.o (p2121.o (p2117.o (p2113.o (p2109.o (p2106.o (p2092.o (p2076.o (p2072.o s2070 rfl) rfl) rfl) rfl) rfl) rfl) rfl) rfl) rfl) rfl) rfl) rfl) rfl) rfl) rfl) rfl) rfl) rfl) rfl
     refine s1g p2187.z (okMv s2191) rfl (yd p2187.z rfl rfl s2190) fun a2192 p2193 s2194 => ?_
     have s2195 := p2193.o s2190 rfl
     refine s1g p2193.z (okGt s2194 cst) rfl (yd p2193.z rfl rfl s2195) fun a2196 p2197 s2198 => ?_
     have s2199 := p2197.o s2195 rfl
     refine s1 p2197.z (okPickF s2199 s2198) rfl fun a2200 p2201 s2202 => ?_
     exact rN ⟨rfl, rfl, ((((Pg.refl p2187.z).st p2193 rfl).st p2197 rfl).st p2201 rfl), (orF hb2189 s2202)⟩
    ·have s2203 := bv s2188 hb2189
     refine s1k p2187.z rfl (yd p2187.z rfl rfl s2203) rfl fun a2204 p2205 s2206 => ?_
     have s2207 := p2205.o s2203 rfl
     refine s1k p2205.z rfl (yd p2205.z rfl rfl s2207) rfl fun a2208 p2209 s2210 => ?_
     have s2211 := p2209.o s2207 rfl
     refine s1 p2209.z (okPickT s2211 cst) rfl fun a2212 p2213 s2214 => ?_
     exact rN ⟨rfl, rfl, ((((Pg.refl p2187.z).st p2205 rfl).st p2209 rfl).st p2213 rfl), (orT hb2189 s2214)⟩
   rintro a2215 ⟨pg2216, s2217⟩
   refine s1 pg2216.z (okMv s2217) rfl fun a2218 p2219 s2220 => ?_
   refine cutP 3 (fun a' => Pg Try.f3.ntmps [70, 71, 72] a2218 a' ∧ a'.eval (.tmp 72) = .bool ((((decide (0 < t237)) || (decide (x1 < 0))) || (decide (1 < x1))) || (t184 == 0))) ?_ ?_
   ·rcases bf (((decide (0 < t237)) || (decide (x1 < 0))) || (decide (1 < x1))) with hb2221 | hb2221
    ·have s2222 := bv s2220 hb2221
     have s2223 := p2219.o (pg2216.o (p2187.o (pg2184.o (p2155.o (p2152.o (p2149.o (p2145.o (p2141.o (p2137.o (p2133.o (p2129.o (p2125.o (p2121.o (p2117.o (p2113.o (p2109.o (p2106.o (p2092.o (p2076.o (p2072.o (p2068.o (p2064.o (p2060.o (p1462.o (p1459.o s256 rfl) rfl) rfl) rfl) rfl) rfl) rfl) rfl) rfl) rfl) rfl) rfl) rfl) rfl) rfl) rfl) rfl) rfl) rfl) rfl) rfl) rfl) rfl) rfl) rfl) rfl
     refine s1g p2219.z (okMv s2223) rfl (yd p2219.z rfl rfl s2222) fun a2224 p2225 s2226 => ?_
     have s2227 := p2225.o s2222 rfl
     refine s1g p2225.z (okEq s2226 cst) rfl (yd p2225.z rfl rfl s2227) fun a2228 p2229 s2230 => ?_
     have s2231 := p2229.o s2227 rfl
     refine s1 p2229.z (okPickF s2231 s2230) rfl fun a2232 p2233 s2234 => ?_
     exact rN ⟨rfl, rfl, ((((Pg.refl p2219.z).st p2225 rfl).st p2229 rfl).st p2233 rfl), (orF hb2221 s2234)⟩
    ·have s2235 := bv s2220 hb2221
     refine s1k p2219.z rfl (yd p2219.z rfl rfl s2235) rfl fun a2236 p2237 s2238 => ?_
     have s2239 := p2237.o s2235 rfl
     refine s1k p2237.z rfl (yd p2237.z rfl rfl s2239) rfl fun a2240 p2241 s2242 => ?_
     have s2243 := p2241.o s2239 rfl
     refine s1 p2241.z (okPickT s2243 cst) rfl fun a2244 p2245 s2246 => ?_
     exact rN ⟨rfl, rfl, ((((Pg.refl p2219.z).st p2237 rfl).st p2241 rfl).st p2245 rfl), (orT hb2221 s2246)⟩
   rintro a2247 ⟨pg2248, s2249⟩
   refine s1 pg2248.z (okMv s2249) rfl fun a2250 p2251 s2252 => ?_
   refine cutP 3 (fun a' => Pg Try.f3.ntmps [74, 75, 76] a2250 a' ∧ a'.eval (.tmp 76) = .bool (((((decide (0 < t237)) || (decide (x1 < 0))) || (decide (1 < x1))) || (t184 == 0)) || (decide (16 < t184)))) ?_ ?_
   ·rcases bf ((((decide (0 < t237)) || (decide (x1 < 0))) || (decide (1 < x1))) || (t184 == 0)) with hb2253 | hb2253
    ·have s2254 := bv s2252 hb2253
     have s2255 := p2251.o (pg2248.o (p2219.o (pg2216.o (p2187.o (pg2184.o (p2155.o (p2152.o (p2149.o (p2145.o (p2141.o (p2137.o (p2133.o (p2129.o (p2125.o (p2121.o (p2117.o (p2113.o (p2109.o (p2106.o (p2092.o (p2076.o (p2072.o (p2068.o (p2064.o (p2060.o (p1462.o (p1459.o s256 rfl) rfl) rfl) rfl) rfl) rfl) rfl) rfl) rfl) rfl) rfl) rfl) rfl) rfl) rfl) rfl) rfl) rfl) rfl) rfl) rfl) rfl) rfl) rfl) rfl) rfl) rfl) rfl
     refine s1g p2251.z (okMv s2255) rfl (yd p2251.z rfl rfl s2254) fun a2256 p2257 s2258 => ?_
     have s2259 := p2257.o s2254 rfl
     refine s1g p2257.z (okGt s2258 cst) rfl (yd p2257.z rfl rfl s2259) fun a2260 p2261 s2262 => ?_
     have s2263 := p2261.o s2259 rfl
     refine s1 p2261.z (okPickF s2263 s2262) rfl fun a2264 p2265 s2266 => ?_
     exact rN ⟨rfl, rfl, ((((Pg.refl p2251.z).st p2257 rfl).st p2261 rfl).st p2265 rfl), (orF hb2253 s2266)⟩
    ·have s2267 := bv s2252 hb2253
     refine s1k p2251.z rfl (yd p2251.z rfl rfl s2267) rfl fun a2268 p2269 s2270 => ?_
     have s2271 := p2269.o s2267 rfl
     refine s1k p2269.z rfl (yd p2269.z rfl rfl s2271) rfl fun a2272 p2273 s2274 => ?_
     have s2275 := p2273.o s2271 rfl
     refine s1 p2273.z (okPickT s2275 cst) rfl fun a2276 p2277 s2278 => ?_
     exact rN ⟨rfl, rfl, ((((Pg.refl p2251.z).st p2269 rfl).st p2273 rfl).st p2277 rfl), (orT hb2253 s2278)⟩
   rintro a2279 ⟨pg2280, s2281⟩
   refine s1 pg2280.z (okAs s2281) rfl fun a2282 p2283 s2284 => ?_
   refine rN (thenN ?_)
   refine wp_seq ?_
   refine wp_seq ?_
   refine reg ?_
   refine s1 p2283.z (okMv s2284) rfl fun a2285 p2286 s2287 => ?_
   refine s1 p2286.z (okNot s2287) rfl fun a2288 p2289 s2290 => ?_
   refine rN (thenN ?_)
   have s2291 := p2289.o (p2286.o (p2283.o (pg2280.o (p2251.o (pg2248.o (p2219.o (pg2216.o (p2187.o (pg2184.o (p2155.o (p2152.o (p2149.o (p2145.o (p2141.o (p2137.o (p2133.o s2130 rfl) rfl) rfl) rfl) rfl) rfl) rfl) rfl) rfl) rfl) rfl) rfl) rfl) rfl) rfl) rfl) rfl
   have s2292 := p2289.o (p2286.o (p2283.o (pg2280.o (p2251.o (pg2248.o (p2219.o (pg2216.o (p2187.o (pg2184.o (p2155.o (p2152.o (p2149.o (p2145.o (p2141.o (p2137.o s2134 rfl) rfl) rfl) rfl) rfl) rfl) rfl) rfl) rfl) rfl) rfl) rfl) rfl) rfl) rfl) rfl
   have s2293 := p2289.o (p2286.o (p2283.o (pg2280.o (p2251.o (pg2248.o (p2219.o (pg2216.o (p2187.o (pg2184.o (p2155.o (p2152.o (p2149.o (p2145.o (p2141.o s2138 rfl) rfl) rfl) rfl) rfl) rfl) rfl) rfl) rfl) rfl) rfl) rfl) rfl) rfl) rfl
   have s2294 := p2289.o (p2286.o (p2283.o (pg2280.o (p2251.o (pg2248.o (p2219.o (pg2216.o (p2187.o (pg2184.o (p2155.o (p2152.o (p2149.o (p2145.o s2142 rfl) rfl) rfl) rfl) rfl) rfl) rfl) rfl) rfl) rfl) rfl) rfl) rfl) rfl
   have s2295 := p2289.o (p2286.o (p2283.o (pg2280.o (p2251.o (pg2248.o (p2219.o (pg2216.o (p2187.o (pg2184.o (p2155.o (p2152.o (p2149.o s2146 rfl) rfl) rfl) rfl) rfl) rfl) rfl) rfl) rfl) rfl) rfl) rfl) rfl
   have pg2296 : Pg _ [17, 18, 19, 20, 21, 22, 45, 46, 47, 48, 49, 50, 51, 52, 53, 54, 55, 56, 57, 58, 59, 60, 61, 62, 63, 64, 65, 66, 67, 68, 69, 70, 71, 72, 73, 74, 75, 76, 77, 78] _ _ := (((((((((((((((((((((((((((((((((Pg.refl pg261.z).st p1459 rfl).st p1462 rfl).st p2060 rfl).st p2064 rfl).st p2068 rfl).st p2072 rfl).st p2076 rfl).st p2092 rfl).st p2106 rfl).st p2109 rfl).st p2113 rfl).st p2117 rfl).st p2121 rfl).st p2125 rfl).st p2129 rfl).st p2133 rfl).st p2137 rfl).st p2141 rfl).st p2145 rfl).st p2149 rfl).st p2152 rfl).st p2155 rfl).tr pg2184 rfl).st p2187 rfl).tr pg2216 rfl).st p2219 rfl).tr pg2248 rfl).st p2251 rfl).tr pg2280 rfl).st p2283 rfl).st p2286 rfl).st p2289 rfl)
   refine cnd s2290 (fun hb2297 => ?_) (fun hb2297 => ?_)
   ·replace h := (ifP hb2297).symm.trans h
    refine wp_seq ?_
    refine reg ?_
    have s2298 := pg2296.o (pg261.o s29 rfl) rfl
    refine s1 pg2296.z (okMv s2298) rfl fun a2299 p2300 s2301 => ?_
    refine s1 p2300.z (okMv s2301) rfl fun a2302 p2303 s2304 => ?_
    refine cutP 3 (fun a' => Pg Try.f3.ntmps [81, 82, 83] a2302 a' ∧ a'.eval (.tmp 83) = .bool (t4 && ((t2088.2.2.2.2).isN))) ?_ ?_
    ·rcases bf t4 with hb2305 | hb2305
     ·have s2306 := bv s2304 hb2305
      refine s1k p2303.z rfl (yd p2303.z rfl rfl s2306) rfl fun a2307 p2308 s2309 => ?_
      have s2310 := p2308.o s2306 rfl
      refine s1k p2308.z rfl (yd p2308.z rfl rfl s2310) rfl fun a2311 p2312 s2313 => ?_
      have s2314 := p2312.o s2310 rfl
      refine s1 p2312.z (okPickF s2314 cst) rfl fun a2315 p2316 s2317 => ?_
      exact rN ⟨rfl, rfl, ((((Pg.refl p2303.z).st p2308 rfl).st p2312 rfl).st p2316 rfl), (andF hb2305 s2317)⟩
     ·have s2318 := bv s2304 hb2305
      have s2319 := p2303.o (p2300.o s2295 rfl) rfl
      refine s1g p2303.z (okMv s2319) rfl (yd p2303.z rfl rfl s2318) fun a2320 p2321 s2322 => ?_
      have s2323 := p2321.o s2318 rfl
      refine s1g p2321.z (okEEqN ef33 s2322 q2100 _) rfl (yd p2321.z rfl rfl s2323) fun a2324 p2325 s2326 => ?_
      have s2327 := p2325.o s2323 rfl
      refine s1 p2325.z (okPickT s2327 s2326) rfl fun a2328 p2329 s2330 => ?_
      exact rN ⟨rfl, rfl, ((((Pg.refl p2303.z).st p2321 rfl).st p2325 rfl).st p2329 rfl), (andT hb2305 s2330)⟩
    rintro a2331 ⟨pg2332, s2333⟩
    refine s1 pg2332.z (okMv s2333) rfl fun a2334 p2335 s2336 => ?_
    refine cutP 3 (fun a' => Pg Try.f3.ntmps [85, 86, 87] a2334 a' ∧ a'.eval (.tmp 87) = .bool ((t4 && ((t2088.2.2.2.2).isN)) && (decide (0 ≤ t2088.2.2.1)))) ?_ ?_
    ·rcases bf (t4 && ((t2088.2.2.2.2).isN)) with hb2337 | hb2337
     ·have s2338 := bv s2336 hb2337
      refine s1k p2335.z rfl (yd p2335.z rfl rfl s2338) rfl fun a2339 p2340 s2341 => ?_
      have s2342 := p2340.o s2338 rfl
      refine s1k p2340.z rfl (yd p2340.z rfl rfl s2342) rfl fun a2343 p2344 s2345 => ?_
      have s2346 := p2344.o s2342 rfl
      refine s1 p2344.z (okPickF s2346 cst) rfl fun a2347 p2348 s2349 => ?_
      exact rN ⟨rfl, rfl, ((((Pg.refl p2335.z).st p2340 rfl).st p2344 rfl).st p2348 rfl), (andF hb2337 s2349)⟩
     ·have s2350 := bv s2336 hb2337
      have s2351 := p2335.o (pg2332.o (p2303.o (p2300.o s2293 rfl) rfl) rfl) rfl
      refine s1g p2335.z (okMv s2351) rfl (yd p2335.z rfl rfl s2350) fun a2352 p2353 s2354 => ?_
      have s2355 := p2353.o s2350 rfl
      refine s1g p2353.z (okGe s2354 cst) rfl (yd p2353.z rfl rfl s2355) fun a2356 p2357 s2358 => ?_
      have s2359 := p2357.o s2355 rfl
      refine s1 p2357.z (okPickT s2359 s2358) rfl fun a2360 p2361 s2362 => ?_
      exact rN ⟨rfl, rfl, ((((Pg.refl p2335.z).st p2353 rfl).st p2357 rfl).st p2361 rfl), (andT hb2337 s2362)⟩
    rintro a2363 ⟨pg2364, s2365⟩
    refine s1 pg2364.z (okMv s2365) rfl fun a2366 p2367 s2368 => ?_
    refine cutP 3 (fun a' => Pg Try.f3.ntmps [89, 90, 91] a2366 a' ∧ a'.eval (.tmp 91) = .bool (((t4 && ((t2088.2.2.2.2).isN)) && (decide (0 ≤ t2088.2.2.1))) && (decide (t2088.2.2.1 ≤ 3)))) ?_ ?_
    ·rcases bf ((t4 && ((t2088.2.2.2.2).isN)) && (decide (0 ≤ t2088.2.2.1))) with hb2369 | hb2369
     ·have s2370 := bv s2368 hb2369
      refine s1k p2367.z rfl (yd p2367.z rfl rfl s2370) rfl fun a2371 p2372 s2373 => ?_
      have s2374 := p2372.o s2370 rfl
      refine s1k p2372.z rfl (yd p2372.z rfl rfl s2374) rfl fun a2375 p2376 s2377 => ?_
      have s2378 := p2376.o s2374 rfl
      refine s1 p2376.z (okPickF s2378 cst) rfl fun a2379 p2380 s2381 => ?_
      exact rN ⟨rfl, rfl, ((((Pg.refl p2367.z).st p2372 rfl).st p2376 rfl).st p2380 rfl), (andF hb2369 s2381)⟩
     ·have s2382 := bv s2368 hb2369
      have s2383 := p2367.o (pg2364.o (p2335.o (pg2332.o (p2303.o (p2300.o s2293 rfl) rfl) rfl) rfl) rfl) rfl
      refine s1g p2367.z (okMv s2383) rfl (yd p2367.z rfl rfl s2382) fun a2384 p2385 s2386 => ?_
      have s2387 := p2385.o s2382 rfl
      refine s1g p2385.z (okLe s2386 cst) rfl (yd p2385.z rfl rfl s2387) fun a2388 p2389 s2390 => ?_
      have s2391 := p2389.o s2387 rfl
      refine s1 p2389.z (okPickT s2391 s2390) rfl fun a2392 p2393 s2394 => ?_
      exact rN ⟨rfl, rfl, ((((Pg.refl p2367.z).st p2385 rfl).st p2389 rfl).st p2393 rfl), (andT hb2369 s2394)⟩
    rintro a2395 ⟨pg2396, s2397⟩
    refine s1 pg2396.z (okAs s2397) rfl fun a2398 p2399 s2400 => ?_
    refine rN (thenN ?_)
    obtain rfl := Option.some.inj h
    exact wp_ret (thenR (ret1 p2399.z Try.results3 (rvT s2400) ⟨_, rfl, rfl, cx2104.g⟩))
   replace h := (ifN hb2297).symm.trans h
   refine wp_skip (thenN ?_)
   refine wp_seq ?_
   refine reg ?_
   have s2401 := pg2296.o (pg261.o s29 rfl) rfl
   refine s1 pg2296.z (okMv s2401) rfl fun a2402 p2403 s2404 => ?_
   refine s1 p2403.z (okMv s2404) rfl fun a2405 p2406 s2407 => ?_
   refine cutP 4 (fun a' => Pg Try.f3.ntmps [94, 95, 96, 97] a2405 a' ∧ a'.eval (.tmp 97) = .bool (t4 && (decide (t2088.2.2.2.2 = .code 1)))) ?_ ?_
   ·rcases bf t4 with hb2408 | hb2408
    ·have s2409 := bv s2407 hb2408
     refine s1k p2406.z rfl (yd p2406.z rfl rfl s2409) rfl fun a2410 p2411 s2412 => ?_
     have s2413 := p2411.o s2409 rfl
     refine s1k p2411.z rfl (yd p2411.z rfl rfl s2413) rfl fun a2414 p2415 s2416 => ?_
     have s2417 := p2415.o s2413 rfl
     refine s1k p2415.z rfl (yd p2415.z rfl rfl s2417) rfl fun a2418 p2419 s2420 => ?_
     have s2421 := p2419.o s2417 rfl
     refine s1 p2419.z (okPickF s2421 cst) rfl fun a2422 p2423 s2424 => ?_
     exact rN ⟨rfl, rfl, (((((Pg.refl p2406.z).st p2411 rfl).st p2415 rfl).st p2419 rfl).st p2423 rfl), (andF hb2408 s2424)⟩
    ·have s2425 := bv s2407 hb2408
     have s2426 := p2406.o (p2403.o s2295 rfl) rfl
     refine s1g p2406.z (okMv s2426) rfl (yd p2406.z rfl rfl s2425) fun a2427 p2428 s2429 => ?_
     have s2430 := p2428.o s2425 rfl
     refine s1g p2428.z (okMkI Try.underlying36 cst _) rfl (yd p2428.z rfl rfl s2430) fun a2431 p2432 s2433 => ?_
     have s2434 := p2432.o s2430 rfl
     have s2435 := p2432.o s2429 rfl
     refine s1g p2432.z (okEEqC ef33 s2435 q2100 s2433 _) rfl (yd p2432.z rfl rfl s2434) fun a2436 p2437 s2438 => ?_
     have s2439 := p2437.o s2434 rfl
     refine s1 p2437.z (okPickT s2439 s2438) rfl fun a2440 p2441 s2442 => ?_
     exact rN ⟨rfl, rfl, (((((Pg.refl p2406.z).st p2428 rfl).st p2432 rfl).st p2437 rfl).st p2441 rfl), (andT hb2408 s2442)⟩
   rintro a2443 ⟨pg2444, s2445⟩
   refine s1 pg2444.z (okMv s2445) rfl fun a2446 p2447 s2448 => ?_
   refine cutP 4 (fun a' => Pg Try.f3.ntmps [99, 100, 101, 102] a2446 a' ∧ a'.eval (.tmp 102) = .bool ((t4 && (decide (t2088.2.2.2.2 = .code 1))) && ((t2088.1.length : Int) == 0))) ?_ ?_
   ·rcases bf (t4 && (decide (t2088.2.2.2.2 = .code 1))) with hb2449 | hb2449
    ·have s2450 := bv s2448 hb2449
     refine s1k p2447.z rfl (yd p2447.z rfl rfl s2450) rfl fun a2451 p2452 s2453 => ?_
     have s2454 := p2452.o s2450 rfl
     refine s1k p2452.z rfl (yd p2452.z rfl rfl s2454) rfl fun a2455 p2456 s2457 => ?_
     have s2458 := p2456.o s2454 rfl
     refine s1k p2456.z rfl (yd p2456.z rfl rfl s2458) rfl fun a2459 p2460 s2461 => ?_
     have s2462 := p2460.o s2458 rfl
     refine s1 p2460.z (okPickF s2462 cst) rfl fun a2463 p2464 s2465 => ?_
     exact rN ⟨rfl, rfl, (((((Pg.refl p2447.z).st p2452 rfl).st p2456 rfl).st p2460 rfl).st p2464 rfl), (andF hb2449 s2465)⟩
    ·have s2466 := bv s2448 hb2449
     have s2467 := p2447.o (pg2444.o (p2406.o (p2403.o s2291 rfl) rfl) rfl) rfl
     refine s1g p2447.z (okMv s2467) rfl (yd p2447.z rfl rfl s2466) fun a2468 p2469 s2470 => ?_
     have s2471 := p2469.o s2466 rfl
     refine s1g p2469.z (okLenR Try.underlying30 s2470 q2098) rfl (yd p2469.z rfl rfl s2471) fun a2472 p2473 s2474 => ?_
     have s2475 := p2473.o s2471 rfl
     refine s1g p2473.z (okEq s2474 cst) rfl (yd p2473.z rfl rfl s2475) fun a2476 p2477 s2478 => ?_
     have s2479 := p2477.o s2475 rfl
     refine s1 p2477.z (okPickT s2479 s2478) rfl fun a2480 p2481 s2482 => ?_
     exact rN ⟨rfl, rfl, (((((Pg.refl p2447.z).st p2469 rfl).st p2473 rfl).st p2477 rfl).st p2481 rfl), (andT hb2449 s2482)⟩
   rintro a2483 ⟨pg2484, s2485⟩
   refine s1 pg2484.z (okMv s2485) rfl fun a2486 p2487 s2488 => ?_
   refine cutP 4 (fun a' => Pg Try.f3.ntmps [104, 105, 106, 107] a2486 a' ∧ a'.eval (.tmp 107) = .bool (((t4 && (decide (t2088.2.2.2.2 = .code 1))) && ((t2088.1.length : Int) == 0)) && ((t2088.2.1.length : Int) == 0))) ?_ ?_
   ·rcases bf ((t4 && (decide (t2088.2.2.2.2 = .code 1))) && ((t2088.1.length : Int) == 0)) with hb2489 | hb2489
    ·have s2490 := bv s2488 hb2489
     refine s1k p2487.z rfl (yd p2487.z rfl rfl s2490) rfl fun a2491 p2492 s2493 => ?_
     have s2494 := p2492.o s2490 rfl
     refine s1k p2492.z rfl (yd p2492.z rfl rfl s2494) rfl fun a2495 p2496 s2497 => ?_
     have s2498 := p2496.o s2494 rfl
     refine s1k p2496.z rfl (yd p2496.z rfl rfl s2498) rfl fun a2499 p2500 s2501 => ?_
     have s2502 := p2500.o s2498 rfl
     refine s1 p2500.z (okPickF s2502 cst) rfl fun a2503 p2504 s2505 => ?_
     exact rN ⟨rfl, rfl, (((((Pg.refl p2487.z).st p2492 rfl).st p2496 rfl).st p2500 rfl).st p2504 rfl), (andF hb2489 s2505)⟩
    ·have s2506 := bv s2488 hb2489
     have s2507 := p2487.o (pg2484.o (p2447.o (pg2444.o (p2406.o (p2403.o s2292 rfl) rfl) rfl) rfl) rfl) rfl
     refine s1g p2487.z (okMv s2507) rfl (yd p2487.z rfl rfl s2506) fun a2508 p2509 s2510 => ?_
     have s2511 := p2509.o s2506 rfl
     refine s1g p2509.z (okLenR Try.underlying31 s2510 q2099) rfl (yd p2509.z rfl rfl s2511) fun a2512 p2513 s2514 => ?_
     have s2515 := p2513.o s2511 rfl
     refine s1g p2513.z (okEq s2514 cst) rfl (yd p2513.z rfl rfl s2515) fun a2516 p2517 s2518 => ?_
     have s2519 := p2517.o s2515 rfl
     refine s1 p2517.z (okPickT s2519 s2518) rfl fun a2520 p2521 s2522 => ?_
     exact rN ⟨rfl, rfl, (((((Pg.refl p2487.z).st p2509 rfl).st p2513 rfl).st p2517 rfl).st p2521 rfl), (andT hb2489 s2522)⟩
   rintro a2523 ⟨pg2524, s2525⟩
   refine s1 pg2524.z (okMv s2525) rfl fun a2526 p2527 s2528 => ?_
   refine cutP 3 (fun a' => Pg Try.f3.ntmps [109, 110, 111] a2526 a' ∧ a'.eval (.tmp 111) = .bool ((((t4 && (decide (t2088.2.2.2.2 = .code 1))) && ((t2088.1.length : Int) == 0)) && ((t2088.2.1.length : Int) == 0)) && (t2088.2.2.1 == 0))) ?_ ?_
   ·rcases bf (((t4 && (decide (t2088.2.2.2.2 = .code 1))) && ((t2088.1.length : Int) == 0)) && ((t2088.2.1.length : Int) == 0)) with hb2529 | hb2529
    ·have s2530 := bv s2528 hb2529
     refine s1k p2527.z rfl (yd p2527.z rfl rfl s2530) rfl fun a2531 p2532 s2533 => ?_
     have s2534 := p2532.o s2530 rfl
     refine s1k p2532.z rfl (yd p2532.z rfl rfl s2534) rfl fun a2535 p2536 s2537 => ?_
     have s2538 := p2536.o s2534 rfl
     refine s1 p2536.z (okPickF s2538 cst) rfl fun a2539 p2540 s2541 => ?_
     exact rN ⟨rfl, rfl, ((((Pg.refl p2527.z).st p2532 rfl).st p2536 rfl).st p2540 rfl), (andF hb2529 s2541)⟩
    ·have s2542 := bv s2528 hb2529
     have s2543 := p2527.o (pg2524.o (p2487.o (pg2484.o (p2447.o (pg2444.o (p2406.o (p2403.o s2293 rfl) rfl) rfl) rfl) rfl) rfl) rfl) rfl
     refine s1g p2527.z (okMv s2543) rfl (yd p2527.z rfl rfl s2542) fun a2544 p2545 s2546 => ?_
     have s2547 := p2545.o s2542 rfl
     refine s1g p2545.z (okEq s2546 cst) rfl (yd p2545.z rfl rfl s2547) fun a2548 p2549 s2550 => ?_
     have s2551 := p2549.o s2547 rfl
     refine s1 p2549.z (okPickT s2551 s2550) rfl fun a2552 p2553 s2554 => ?_
     exact rN ⟨rfl, rfl, ((((Pg.refl p2527.z).st p2545 rfl).st p2549 rfl).st p2553 rfl), (andT hb2529 s2554)⟩
   rintro a2555 ⟨pg2556, s2557⟩
   refine s1 pg2556.z (okMv s2557) rfl fun a2558 p2559 s2560 => ?_
   refine cutP 3 (fun a' => Pg Try.f3.ntmps [113, 114, 115] a2558 a' ∧ a'.eval (.tmp 115) = .bool (((((t4 && (decide (t2088.2.2.2.2 = .code 1))) && ((t2088.1.length : Int) == 0)) && ((t2088.2.1.length : Int) == 0)) && (t2088.2.2.1 == 0)) && (t2088.2.2.2.1 == 0))) ?_ ?_
   ·rcases bf ((((t4 && (decide (t2088.2.2.2.2 = .code 1))) && ((t2088.1.length : Int) == 0)) && ((t2088.2.1.length : Int) == 0)) && (t2088.2.2.1 == 0)) with hb2561 | hb2561
    ·have s2562 := bv s2560 hb2561
     refine s1k p2559.z rfl (yd p2559.z rfl rfl s2562) rfl fun a2563 p2564 s2565 => ?_
     have s2566 := p2564.o s2562 rfl
     refine s1k p2564.z rfl (yd p2564.z rfl rfl s2566) rfl fun a2567 p2568 s2569 => ?_
     have s2570 := p2568.o s2566 rfl
     refine s1 p2568.z (okPickF s2570 cst) rfl fun a2571 p2572 s2573 => ?_
     exact rN ⟨rfl, rfl, ((((Pg.refl p2559.z).st p2564 rfl).st p2568 rfl).st p2572 rfl), (andF hb2561 s2573)⟩
    ·have s2574 := bv s2560 hb2561
     have s2575 := p2559.o (pg2556.o (p2527.o (pg2524.o (p2487.o (pg2484.o (p2447.o (pg2444.o (p2406.o (p2403.o s2294 rfl) rfl) rfl) rfl) rfl) rfl) rfl) rfl) rfl) rfl
     refine s1g p2559.z (okMv s2575) rfl (yd p2559.z rfl rfl s2574) fun a2576 p2577 s2578 => ?_
     have s2579 := p2577.o s2574 rfl
     refine s1g p2577.z (okEq s2578 cst) rfl (yd p2577.z rfl rfl s2579) fun a2580 p2581 s2582 => ?_
     have s2583 := p2581.o s2579 rfl
     refine s1 p2581.z (okPickT s2583 s2582) rfl fun a2584 p2585 s2586 => ?_
     exact rN ⟨rfl, rfl, ((((Pg.refl p2559.z).st p2577 rfl).st p2581 rfl).st p2585 rfl), (andT hb2561 s2586)⟩
   rintro a2587 ⟨pg2588, s2589⟩
   refine s1 pg2588.z (okMv s2589) rfl fun a2590 p2591 s2592 => ?_
   obtain ⟨b2593, hb2594, h⟩ := Option.bind_eq_some_iff.1 h
   refine cutL 4 (fun a' w' => Pg Try.f3.ntmps [117, 118, 119, 120] a2590 a' ∧ a'.eval (.tmp 120) = .bool b2593 ∧ G [] w2091 w') ?_ ?_
   ·rcases bf (((((t4 && (decide (t2088.2.2.2.2 = .code 1))) && ((t2088.1.length : Int) == 0)) && ((t2088.2.1.length : Int) == 0)) && (t2088.2.2.1 == 0)) && (t2088.2.2.2.1 == 0)) with hb2595 | hb2595
    ·have s2596 := bv s2592 hb2595
     replace hb2594 := (ifN hb2595).symm.trans hb2594
     clear h; have h := hb2594; clear hb2594
     refine s1k p2591.z rfl (yd p2591.z rfl rfl s2596) rfl fun a2597 p2598 s2599 => ?_
     have s2600 := p2598.o s2596 rfl
     refine s1k p2598.z rfl (yd p2598.z rfl rfl s2600) rfl fun a2601 p2602 s2603 => ?_
     have s2604 := p2602.o s2600 rfl
     refine s1k p2602.z rfl (yd p2602.z rfl rfl s2604) rfl fun a2605 p2606 s2607 => ?_
     have s2608 := p2606.o s2604 rfl
     refine s1 p2606.z (okPickF s2608 cst) rfl fun a2609 p2610 s2611 => ?_
     obtain rfl := Option.some.inj h
     exact rN ⟨rfl, (((((Pg.refl p2591.z).st p2598 rfl).st p2602 rfl).st p2606 rfl).st p2610 rfl), s2611, (G.refl _ _)⟩
    ·have s2612 := bv s2592 hb2595
     replace hb2594 := (ifP hb2595).symm.trans hb2594
     clear h; have h := hb2594; clear hb2594
     have s2613 := p2591.o (pg2588.o (p2559.o (pg2556.o (p2527.o (pg2524.o (p2487.o (pg2484.o (p2447.o (pg2444.o (p2406.o (p2403.o (pg2296.o s255 rfl) rfl) rfl) rfl) rfl) rfl) rfl) rfl) rfl) rfl) rfl) rfl) rfl
     refine s1g p2591.z (okMv s2613) rfl (yd p2591.z rfl rfl s2612) fun a2614 p2615 s2616 => ?_
     have s2617 := p2615.o s2612 rfl
     have m2618 := m2086.g0 g2103
     have q2619 := q2087.t0 g2103.t0 g2103
     obtain ⟨t2620, ht2621, h⟩ := Option.bind_eq_some_iff.1 h
     refine lG rfl (yd p2615.z rfl rfl s2617) (oCall p2615.z Try.call11 (ag1 s2616) (c11 L w2091 y70 oby70 hpy70_0 cx2104.lt (sepC (show ∀ x ∈ [oby70], x ∉ (ownB hpy70_0 ++ L) from (in1 (na (D148.bo (i := 0) (j := 1) rfl rfl rfl) (fun h => Nat.lt_irrefl _ (Nat.lt_of_lt_of_le (hL _ h) (Nat.le_trans cx50.g.sz (f67 _ (List.mem_append_left _ (.head _))))))))) (sepC (show ∀ x ∈ ownB hpy70_0, x ∉ L from (fun x hx => ((fun x hx hl => D148.dl (i := 1) rfl x hx hl) x hx))) sepN)) m2618 q2619 _ ht2621) rfl fun v2625 a2622 w2623 hp2626 p2624 sp2624 => ?_)
     obtain ⟨rfl, g2629⟩ := hp2626
     have cx2630 := cx2104.ca g2629
     have s2631 := p2624.o s2617 rfl
     refine s1g p2624.z (okEq sp2624 cst) rfl (yd p2624.z rfl rfl s2631) fun a2632 p2633 s2634 => ?_
     have s2635 := p2633.o s2631 rfl
     refine s1 p2633.z (okPickT s2635 s2634) rfl fun a2636 p2637 s2638 => ?_
     obtain rfl := Option.some.inj h
     exact rN ⟨rfl, (((((Pg.refl p2591.z).st p2615 rfl).st p2624 rfl).st p2633 rfl).st p2637 rfl), s2638, g2629⟩
   rintro a2639 w2642 ⟨pg2640, s2641, g2643⟩
   have cx2644 := cx2104.ca g2643
   refine s1 pg2640.z (okAs s2641) rfl fun a2645 p2646 s2647 => ?_
   refine rN (thenN ?_)
   obtain rfl := Option.some.inj h
   exact wp_ret (ret1 p2646.z Try.results3 (rvT s2647) ⟨_, rfl, rfl, cx2644.g⟩)
  ·rw [ho146] at po63
   obtain ⟨oby147, hpy147_0, rfl, rfl, q2648, q2649⟩ := po63
   replace h := (omS ho146).symm.trans h
   have D2650 : Sep [[oby70], ownB hpy70_0, [oby147], ownB hpy147_0] L := D64
   have lt2651 : ∀ b ∈ (oby70 :: (ownB hpy70_0 ++ (oby147 :: (ownB hpy147_0 ++ L)))), b < w54.heap.size := lt65
   have hs2652 : ∀ i ∈ ([] : List Nat), i ∈ [] ∨ w.heap.size ≤ i := memN
   have hs2653 : ∀ i ∈ ([] : List Nat), i ∈ L := memN
   have t2654 : Tr L w40 (oby70 :: (ownB hpy70_0 ++ (oby147 :: (ownB hpy147_0 ++ L)))) w54 := G.tC g66 hs2653 (memC (.inr (f67 _ (List.mem_append_left _ (.head _)))) (memA (fun x hx => .inr ((fun _ h => f67 _ (List.mem_append_right _ (List.mem_append_left _ h))) x hx)) (memC (.inr (f68 _ (List.mem_append_left _ (.head _)))) (memA (fun x hx => .inr ((fun _ h => f68 _ (List.mem_append_right _ (List.mem_append_left _ h))) x hx)) (fun i h => .inl h)))))
   have cx2655 := cx50.gs g66 hs2652 lt2651
   have q2656 : OwnS (KInt .i64) 2 (oby70 :: (ownB hpy70_0 ++ (oby147 :: (ownB hpy147_0 ++ L)))) w54 hpy70_0 y70.l := q145
   have q2657 : OwnS KTPark 59 (oby70 :: (ownB hpy70_0 ++ (oby147 :: (ownB hpy147_0 ++ L)))) w54 hpy147_0 y147.l := q2649
   refine s1 p55.z (okMv sp55) rfl fun a2658 p2659 s2660 => ?_
   refine s1 p2659.z (okExt (vs := [_, _]) s2660 rfl) rfl fun a2661 p2662 s2663 => ?_
   have s2664 := p2662.o s2660 rfl
   refine s1 p2662.z (okExt (vs := [_, _]) s2664 rfl) rfl fun a2665 p2666 s2667 => ?_
   have s2668 := p2666.o s2663 rfl
   refine s1 p2666.z (okAs s2668) rfl fun a2669 p2670 s2671 => ?_
   have s2672 := p2670.o s2667 rfl
   refine s1 p2670.z (okAs s2672) rfl fun a2673 p2674 s2675 => ?_
   refine rN (thenN ?_)
   refine wp_seq ?_
   refine wp_seq ?_
   refine reg ?_
   have s2676 := p2674.o s2671 rfl
   refine s1 p2674.z (okMv s2676) rfl fun a2677 p2678 s2679 => ?_
   refine s1 p2678.z (okPEq Try.underlying24 s2679 cst) rfl fun a2680 p2681 s2682 => ?_
   refine rN (thenN ?_)
   refine wp_cond_false s2682 ?_
   refine wp_skip (thenN ?_)
   refine wp_seq ?_
   refine reg ?_
   have s2683 := p2681.o (p2678.o (p2674.o (p2670.o (p2666.o (p2662.o (p2659.o (p55.o (p41.o (pg30.o s0_2 rfl) rfl) rfl) rfl) rfl) rfl) rfl) rfl) rfl) rfl
   refine s1 p2681.z (okMv s2683) rfl fun a2684 p2685 s2686 => ?_
   obtain ⟨t2687, ht2688, h⟩ := Option.bind_eq_some_iff.1 h
   refine lS (oCall p2685.z Try.call9 (ag2 s2686 cst) (c9 (oby70 :: (ownB hpy70_0 ++ (oby147 :: (ownB hpy147_0 ++ L)))) w54 cx2655.lt _ _ _ ht2688) rfl fun v2692 a2689 w2690 hp2693 p2691 sp2691 => ?_)
   obtain ⟨rfl, g2694⟩ := hp2693
   have cx2695 := cx2655.ca g2694
   refine s1 p2691.z (okAs sp2691) rfl fun a2696 p2697 s2698 => ?_
   refine rN (thenN ?_)
   refine wp_seq ?_
   refine reg ?_
   refine s1 p2697.z (okMv s2698) rfl fun a2699 p2700 s2701 => ?_
   obtain ⟨z2702, hz2703, h⟩ := Option.bind_eq_some_iff.1 h
   have m2704 := q144.g0 g2694
   have m2705 := q2648.g0 g2694
   have q2706 := q2656.t0 g2694.t0 g2694
   have q2707 := q2657.t0 g2694.t0 g2694
   refine lS (oMk (K := KTFrame) (L := (oby70 :: (ownB hpy70_0 ++ (oby147 :: (ownB hpy147_0 ++ L))))) (x0 := (⟨0, Arr16.zero⟩ : TFrame)) Try.underlying30 ti66 rfl zv66 (fun _ => rfl) p2700.z s2701 s2701 hz2703 rfl fun a2708 v2709 w2710 p2711 sp2711 q2712 g2713 f2714 => ?_)
   have f2715 := frN f2714
   have nb2716 := nbA hL cx2695.g.sz (fun _ h => nilO h) f2715
   have sf2717 := sfA (S := []) cx2695.g.sz (fun _ h => nilO h) f2715
   have n2718 := m2704.no (fun h => nilO h) f2715
   have n2719 := m2705.no (fun h => nilO h) f2715
   have n2720 := q2706.dj (fun _ _ h => nilO h) f2715
   have n2721 := q2707.dj (fun _ _ h => nilO h) f2715
   have cx2722 := cx2695.ap g2713 (fun _ h => nilO h) q2712
   refine s1 p2711.z (okAs sp2711) rfl fun a2723 p2724 s2725 => ?_
   refine rN (thenN ?_)
   refine wp_seq ?_
   refine reg ?_
   have s2726 := p2724.o (p2711.o (p2700.o (p2697.o (p2691.o (p2685.o (p2681.o (p2678.o s2676 rfl) rfl) rfl) rfl) rfl) rfl) rfl) rfl
   refine s1 p2724.z (okMv s2726) rfl fun a2727 p2728 s2729 => ?_
   refine s1 p2728.z (okAs s2729) rfl fun a2730 p2731 s2732 => ?_
   refine rN (thenN ?_)
   refine wp_seq ?_
   refine reg ?_
   have s2733 := p2731.o (p2728.o (p2724.o (p2711.o (p2700.o (p2697.o (p2691.o (p2685.o (p2681.o (p2678.o s2675 rfl) rfl) rfl) rfl) rfl) rfl) rfl) rfl) rfl) rfl
   refine s1 p2731.z (okMv s2733) rfl fun a2734 p2735 s2736 => ?_
   refine s1 p2735.z (okAs s2736) rfl fun a2737 p2738 s2739 => ?_
   refine rN (thenN ?_)
   refine wp_seq ?_
   refine reg ?_
   have s2740 := p2738.o (p2735.o (p2731.o (p2728.o (p2724.o (p2711.o (p2700.o (p2697.o (p2691.o (p2685.o (p2681.o (p2678.o (p2674.o (p2670.o (p2666.o (p2662.o (p2659.o (p55.o (p41.o (pg30.o s0_3 rfl) rfl) rfl) rfl) rfl) rfl) rfl) rfl) rfl) rfl) rfl) rfl) rfl) rfl) rfl) rfl) rfl) rfl) rfl) rfl
   refine s1 p2738.z (okMv s2740) rfl fun a2741 p2742 s2743 => ?_
   obtain ⟨t2744, ht2745, h⟩ := Option.bind_eq_some_iff.1 h
   refine lS (oCall p2742.z Try.call9 (ag2 s2743 cst) (c9 (ownB v2709 ++ (oby70 :: (ownB hpy70_0 ++ (oby147 :: (ownB hpy147_0 ++ L))))) w2710 cx2722.lt _ _ _ ht2745) rfl fun v2749 a2746 w2747 hp2750 p2748 sp2748 => ?_)
   obtain ⟨rfl, g2751⟩ := hp2750
   have cx2752 := cx2722.ca g2751
   refine s1 p2748.z (okAs sp2748) rfl fun a2753 p2754 s2755 => ?_
   refine rN (thenN ?_)
   refine wp_seq ?_
   refine wp_seq ?_
   refine reg ?_
   refine s1 p2754.z (okMv s2755) rfl fun a2756 p2757 s2758 => ?_
   refine s1 p2757.z (okEq s2758 cst) rfl fun a2759 p2760 s2761 => ?_
   refine rN (thenN ?_)
   have s2762 := p2760.o (p2757.o (p2754.o (p2748.o (p2742.o (p2738.o (p2735.o (p2731.o (p2728.o s2726 rfl) rfl) rfl) rfl) rfl) rfl) rfl) rfl) rfl
   have s2763 := p2760.o (p2757.o (p2754.o (p2748.o (p2742.o (p2738.o (p2735.o (p2731.o (p2728.o (p2724.o (p2711.o (p2700.o s2698 rfl) rfl) rfl) rfl) rfl) rfl) rfl) rfl) rfl) rfl) rfl) rfl
   have s2764 := p2760.o (p2757.o (p2754.o (p2748.o (p2742.o (p2738.o (p2735.o (p2731.o (p2728.o s2725 rfl) rfl) rfl) rfl) rfl) rfl) rfl) rfl) rfl
   have s2765 := p2760.o (p2757.o (p2754.o (p2748.o (p2742.o (p2738.o (p2735.o s2732 rfl) rfl) rfl) rfl) rfl) rfl) rfl
   have s2766 := p2760.o (p2757.o (p2754.o (p2748.o (p2742.o s2739 rfl) rfl) rfl) rfl) rfl
   have s2767 := p2760.o (p2757.o s2755 rfl) rfl
   have pg2768 : Pg _ [10, 11, 12, 13, 14, 15, 16, 28, 29, 30, 31, 32, 33, 34, 35, 36, 37, 38, 39, 40, 41, 42, 43, 44] _ _ := (((((((((((((((((((((((((Pg.refl pg30.z).st p41 rfl).st p55 rfl).st p2659 rfl).st p2662 rfl).st p2666 rfl).st p2670 rfl).st p2674 rfl).st p2678 rfl).st p2681 rfl).st p2685 rfl).st p2691 rfl).st p2697 rfl).st p2700 rfl).st p2711 rfl).st p2724 rfl).st p2728 rfl).st p2731 rfl).st p2735 rfl).st p2738 rfl).st p2742 rfl).st p2748 rfl).st p2754 rfl).st p2757 rfl).st p2760 rfl)
   refine cnd s2761 (fun hb2769 => ?_) (fun hb2769 => ?_)
   ·replace h := (ifP hb2769).symm.trans h
    refine reg ?_
    refine s1 pg2768.z (okAs cst) rfl fun a2770 p2771 s2772 => ?_
    refine rN (thenN ?_)
    refine wp_seq ?_
    refine wp_seq ?_
    refine reg ?_
    have s2773 := p2771.o s2767 rfl
    refine s1 p2771.z (okMv s2773) rfl fun a2774 p2775 s2776 => ?_
    refine s1 p2775.z (okEq s2776 cst) rfl fun a2777 p2778 s2779 => ?_
    refine rN (thenN ?_)
    have s2780 := p2778.o (p2775.o s2772 rfl) rfl
    have s2781 := p2778.o (p2775.o s2773 rfl) rfl
    have pg2782 : Pg _ [14, 45, 46] _ _ := ((((Pg.refl pg2768.z).st p2771 rfl).st p2775 rfl).st p2778 rfl)
    refine cnd s2779 (fun hb2783 => ?_) (fun hb2783 => ?_)
    ·replace h := (ifP hb2783).symm.trans h
     refine reg ?_
     refine s1 pg2782.z (okAs cst) rfl fun a2784 p2785 s2786 => ?_
     refine rN (thenN ?_)
     refine wp_seq ?_
     refine reg ?_
     have s2787 := p2785.o (pg2782.o (pg2768.o s27 rfl) rfl) rfl
     refine s1 p2785.z (okMv s2787) rfl fun a2788 p2789 s2790 => ?_
     have s2791 := p2789.o (p2785.o s2780 rfl) rfl
     refine s1 p2789.z (okMv s2791) rfl fun a2792 p2793 s2794 => ?_
     have s2795 := p2793.o (p2789.o s2786 rfl) rfl
     refine s1 p2793.z (okMv s2795) rfl fun a2796 p2797 s2798 => ?_
     have s2799 := p2797.o (p2793.o (p2789.o (p2785.o (pg2782.o (pg2768.o (pg30.o s0_1 rfl) rfl) rfl) rfl) rfl) rfl) rfl
     refine s1 p2797.z (okMv s2799) rfl fun a2800 p2801 s2802 => ?_
     have s2803 := p2801.o (p2797.o (p2793.o (p2789.o (p2785.o (pg2782.o s2764 rfl) rfl) rfl) rfl) rfl) rfl
     refine s1 p2801.z (okMv s2803) rfl fun a2804 p2805 s2806 => ?_
     have s2807 := p2805.o (p2801.o (p2797.o (p2793.o s2790 rfl) rfl) rfl) rfl
     have s2808 := p2805.o (p2801.o (p2797.o s2794 rfl) rfl) rfl
     have s2809 := p2805.o (p2801.o s2798 rfl) rfl
     have s2810 := p2805.o s2802 rfl
     have q2811 := q2712.t0 g2751.t0 g2751
     have q2812 : RdS KTFrame (oby70 :: (ownB hpy70_0 ++ (oby147 :: (ownB hpy147_0 ++ L)))) w2747 v2709 z2702 := q2811.rd (fun i h => (List.mem_append_right _ h)) (fun b hb => (not_cons (fun e => n2718 (e ▸ hb)) (not_app ((djs n2720) _ hb) (not_cons (fun e => n2719 (e ▸ hb)) (not_app ((djs n2721) _ hb) (nb2716 _ hb))))))
     have cx2813 := cx2752.sub (fun i h => (List.mem_append_right _ h))
     have q2814 := q20.mono (((((((tAp g43 (fun _ h => nilO h) f45).trans ((Tr.refl (ownB v39 ++ L) w40).sub (fun i h => (List.mem_append_right _ h)))).trans t2654).trans g2694.t0).trans (tAp g2713 (fun _ h => nilO h) f2715)).trans g2751.t0).trans ((Tr.refl (ownB v2709 ++ (oby70 :: (ownB hpy70_0 ++ (oby147 :: (ownB hpy147_0 ++ L))))) w2747).sub (fun i h => (List.mem_append_right _ h))))
     have m2815 := ((m2704.g0 g2713).g0 g2751).g0 (G.refl [] w2747)
     have m2816 := ((m2705.g0 g2713).g0 g2751).g0 (G.refl [] w2747)
     obtain ⟨t2817, ht2818, h⟩ := Option.bind_eq_some_iff.1 h
     refine lS (oCall p2805.z Try.call10 (ag5 s2807 s2808 s2809 s2810 s2806) (c10_n1_n2 (oby70 :: (ownB hpy70_0 ++ (oby147 :: (ownB hpy147_0 ++ L)))) w2747 x0 h0 x1 z2702 v2709 cx2813.lt sepN q2814 q2812 _ ht2818) rfl fun v2822 a2819 w2820 hp2823 p2821 sp2821 => ?_)
     obtain ⟨h2824, h2825, h2826, rfl, q2827, q2828, q2829, g2832⟩ := hp2823
     have cx2833 := cx2813.ca g2832
     refine s1 p2821.z (okMv sp2821) rfl fun a2834 p2835 s2836 => ?_
     refine s1 p2835.z (okExt (vs := [_, _, _, _, _]) s2836 rfl) rfl fun a2837 p2838 s2839 => ?_
     have s2840 := p2838.o s2836 rfl
     refine s1 p2838.z (okExt (vs := [_, _, _, _, _]) s2840 rfl) rfl fun a2841 p2842 s2843 => ?_
     have s2844 := p2842.o s2840 rfl
     refine s1 p2842.z (okExt (vs := [_, _, _, _, _]) s2844 rfl) rfl fun a2845 p2846 s2847 => ?_
     have s2848 := p2846.o s2844 rfl
     refine s1 p2846.z (okExt (vs := [_, _, _, _, _]) s2848 rfl) rfl fun a2849 p2850 s2851 => ?_
     have s2852 := p2850.o s2848 rfl
     refine s1 p2850.z (okExt (vs := [_, _, _, _, _]) s2852 rfl) rfl fun a2853 p2854 s2855 => ?_
     have s2856 := p2854.o (p2850.o (p2846.o (p2842.o s2839 rfl) rfl) rfl) rfl
     refine s1 p2854.z (okAs s2856) rfl fun a2857 p2858 s2859 => ?_
     have s2860 := p2858.o (p2854.o (p2850.o (p2846.o s2843 rfl) rfl) rfl) rfl
     refine s1 p2858.z (okAs s2860) rfl fun a2861 p2862 s2863 => ?_
     have s2864 := p2862.o (p2858.o (p2854.o (p2850.o s2847 rfl) rfl) rfl) rfl
     refine s1 p2862.z (okAs s2864) rfl fun a2865 p2866 s2867 => ?_
     have s2868 := p2866.o (p2862.o (p2858.o (p2854.o s2851 rfl) rfl) rfl) rfl
     refine s1 p2866.z (okAs s2868) rfl fun a2869 p2870 s2871 => ?_
     have s2872 := p2870.o (p2866.o (p2862.o (p2858.o s2855 rfl) rfl) rfl) rfl
     refine s1 p2870.z (okAs s2872) rfl fun a2873 p2874 s2875 => ?_
     refine rN (thenN ?_)
     refine wp_seq ?_
     refine reg ?_
     have s2876 := p2874.o (p2870.o (p2866.o (p2862.o (p2858.o (p2854.o (p2850.o (p2846.o (p2842.o (p2838.o (p2835.o (p2821.o (p2805.o (p2801.o (p2797.o (p2793.o (p2789.o (p2785.o s2781 rfl) rfl) rfl) rfl) rfl) rfl) rfl) rfl) rfl) rfl) rfl) rfl) rfl) rfl) rfl) rfl) rfl) rfl
     refine s1 p2874.z (okMv s2876) rfl fun a2877 p2878 s2879 => ?_
     refine s1 p2878.z (okGt s2879 cst) rfl fun a2880 p2881 s2882 => ?_
     refine s1 p2881.z (okMv s2882) rfl fun a2883 p2884 s2885 => ?_
     refine cutP 3 (fun a' => Pg Try.f3.ntmps [62, 63, 64] a2883 a' ∧ a'.eval (.tmp 64) = .bool ((decide (0 < t2744)) || (decide (x1 < 0)))) ?_ ?_
     ·rcases bf (decide (0 < t2744)) with hb2886 | hb2886
      ·have s2887 := bv s2885 hb2886
       have s2888 := p2884.o (p2881.o (p2878.o (p2874.o (p2870.o (p2866.o (p2862.o (p2858.o (p2854.o (p2850.o (p2846.o (p2842.o (p2838.o (p2835.o (p2821.o (p2805.o (p2801.o s2799 rfl) rfl) rfl) rfl) rfl) rfl) rfl) rfl) rfl) rfl) rfl) rfl) rfl) rfl) rfl) rfl) rfl
       refine s1g p2884.z (okMv s2888) rfl (yd p2884.z rfl rfl s2887) fun a2889 p2890 s2891 => ?_
       have s2892 := p2890.o s2887 rfl
       refine s1g p2890.z (okLt s2891 cst) rfl (yd p2890.z rfl rfl s2892) fun a2893 p2894 s2895 => ?_
       have s2896 := p2894.o s2892 rfl
       refine s1 p2894.z (okPickF s2896 s2895) rfl fun a2897 p2898 s2899 => ?_
       exact rN ⟨rfl, rfl, ((((Pg.refl p2884.z).st p2890 rfl).st p2894 rfl).st p2898 rfl), (orF hb2886 s2899)⟩
      ·have s2900 := bv s2885 hb2886
       refine s1k p2884.z rfl (yd p2884.z rfl rfl s2900) rfl fun a2901 p2902 s2903 => ?_
       have s2904 := p2902.o s2900 rfl
       refine s1k p2902.z rfl (yd p2902.z rfl rfl s2904) rfl fun a2905 p2906 s2907 => ?_
       have s2908 := p2906.o s2904 rfl
       refine s1 p2906.z (okPickT s2908 cst) rfl fun a2909 p2910 s2911 => ?_
       exact rN ⟨rfl, rfl, ((((Pg.refl p2884.z).st p2902 rfl).st p2906 rfl).st p2910 rfl), (orT hb2886 s2911)⟩
     rintro a2912 ⟨pg2913, s2914⟩
     refine s1 pg2913.z (okMv s2914) rfl fun a2915 p2916 s2917 => ?_
     refine cutP 3 (fun a' => Pg Try.f3.ntmps [66, 67, 68] a2915 a' ∧ a'.eval (.tmp 68) = .bool (((decide (0 < t2744)) || (decide (x1 < 0))) || (decide (1 < x1)))) ?_ ?_
     ·rcases bf ((decide (0 < t2744)) || (decide (x1 < 0))) with hb2918 | hb2918
      ·have s2919 := bv s2917 hb2918
       have s2920 := p2916.o (pg2913.o (p2884.o (p2881.o (p2878.o (p2874.o (p2870.o (p2866.o (p2862.o (p2858.o (p2854.o (p2850.o (p2846.o (p2842.o (p2838.o (p2835.o (p2821.o (p2805.o (p2801.o s2799 rfl) rfl) rfl) rfl) rfl) rfl) rfl) rfl) rfl) rfl) rfl) rfl) rfl) rfl) rfl) rfl) rfl) rfl) rfl
       refine s1g p2916.z (okMv s2920) rfl (yd p2916.z rfl rfl s2919) fun a2921 p2922 s2923 => ?_
       have s2924 := p2922.o s2919 rfl
       refine s1g p2922.z (okGt s2923 cst) rfl (yd p2922.z rfl rfl s2924) fun a2925 p2926 s2927 => ?_
       have s2928 := p2926.o s2924 rfl
       refine s1 p2926.z (okPickF s2928 s2927) rfl fun a2929 p2930 s2931 => ?_
       exact rN ⟨rfl, rfl, ((((Pg.refl p2916.z).st p2922 rfl).st p2926 rfl).st p2930 rfl), (orF hb2918 s2931)⟩
      ·have s2932 := bv s2917 hb2918
       refine s1k p2916.z rfl (yd p2916.z rfl rfl s2932) rfl fun a2933 p2934 s2935 => ?_
       have s2936 := p2934.o s2932 rfl
       refine s1k p2934.z rfl (yd p2934.z rfl rfl s2936) rfl fun a2937 p2938 s2939 => ?_
       have s2940 := p2938.o s2936 rfl
       refine s1 p2938.z (okPickT s2940 cst) rfl fun a2941 p2942 s2943 => ?_
       exact rN ⟨rfl, rfl, ((((Pg.refl p2916.z).st p2934 rfl).st p2938 rfl).st p2942 rfl), (orT hb2918 s2943)⟩
     rintro a2944 ⟨pg2945, s2946⟩
     refine s1 pg2945.z (okMv s2946) rfl fun a2947 p2948 s2949 => ?_
     refine cutP 3 (fun a' => Pg Try.f3.ntmps [70, 71, 72] a2947 a' ∧ a'.eval (.tmp 72) = .bool ((((decide (0 < t2744)) || (decide (x1 < 0))) || (decide (1 < x1))) || (t2687 == 0))) ?_ ?_
     ·rcases bf (((decide (0 < t2744)) || (decide (x1 < 0))) || (decide (1 < x1))) with hb2950 | hb2950
      ·have s2951 := bv s2949 hb2950
       have s2952 := p2948.o (pg2945.o (p2916.o (pg2913.o (p2884.o (p2881.o (p2878.o (p2874.o (p2870.o (p2866.o (p2862.o (p2858.o (p2854.o (p2850.o (p2846.o (p2842.o (p2838.o (p2835.o (p2821.o (p2805.o (p2801.o (p2797.o (p2793.o (p2789.o (p2785.o (pg2782.o s2763 rfl) rfl) rfl) rfl) rfl) rfl) rfl) rfl) rfl) rfl) rfl) rfl) rfl) rfl) rfl) rfl) rfl) rfl) rfl) rfl) rfl) rfl) rfl) rfl) rfl) rfl
       refine s1g p2948.z (okMv s2952) rfl (yd p2948.z rfl rfl s2951) fun a2953 p2954 s2955 => ?_
       have s2956 := p2954.o s2951 rfl
       refine s1g p2954.z (okEq s2955 cst) rfl (yd p2954.z rfl rfl s2956) fun a2957 p2958 s2959 => ?_
       have s2960 := p2958.o s2956 rfl
       refine s1 p2958.z (okPickF s2960 s2959) rfl fun a2961 p2962 s2963 => ?_
       exact rN ⟨rfl, rfl, ((((Pg.refl p2948.z).st p2954 rfl).st p2958 rfl).st p2962 rfl), (orF hb2950 s2963)⟩
      ·have s2964 := bv s2949 hb2950
       refine s1k p2948.z rfl (yd p2948.z rfl rfl s2964) rfl fun a2965 p2966 s2967 => ?_
       have s2968 := p2966.o s2964 rfl
       refine s1k p2966.z rfl (yd p2966.z rfl rfl s2968) rfl fun a2969 p2970 s2971 => ?_
       have s2972 := p2970.o s2968 rfl
       refine s1 p2970.z (okPickT s2972 cst) rfl fun a2973 p2974 s2975 => ?_
       exact rN ⟨rfl, rfl, ((((Pg.refl p2948.z).st p2966 rfl).st p2970 rfl).st p2974 rfl), (orT hb2950 s2975)⟩
     rintro a2976 ⟨pg2977, s2978⟩
     refine s1 pg2977.z (okMv s2978) rfl fun a2979 p2980 s2981 => ?_
     refine cutP 3 (fun a' => Pg Try.f3.ntmps [74, 75, 76] a2979 a' ∧ a'.eval (.tmp 76) = .bool (((((decide (0 < t2744)) || (decide (x1 < 0))) || (decide (1 < x1))) || (t2687 == 0)) || (decide (16 < t2687)))) ?_ ?_
     ·rcases bf ((((decide (0 < t2744)) || (decide (x1 < 0))) || (decide (1 < x1))) || (t2687 == 0)) with hb2982 | hb2982
      ·have s2983 := bv s2981 hb2982
       have s2984 := p2980.o (pg2977.o (p2948.o (pg2945.o (p2916.o (pg2913.o (p2884.o (p2881.o (p2878.o (p2874.o (p2870.o (p2866.o (p2862.o (p2858.o (p2854.o (p2850.o (p2846.o (p2842.o (p2838.o (p2835.o (p2821.o (p2805.o (p2801.o (p2797.o (p2793.o (p2789.o (p2785.o (pg2782.o s2763 rfl) rfl) rfl) rfl) rfl) rfl) rfl) rfl) rfl) rfl) rfl) rfl) rfl) rfl) rfl) rfl) rfl) rfl) rfl) rfl) rfl) rfl) rfl) rfl) rfl) rfl) rfl) rfl
       refine s1g p2980.z (okMv s2984) rfl (yd p2980.z rfl rfl s2983) fun a2985 p2986 s2987 => ?_
       have s2988 := p2986.o s2983 rfl
       refine s1g p2986.z (okGt s2987 cst) rfl (yd p2986.z rfl rfl s2988) fun a2989 p2990 s2991 => ?_
       have s2992 := p2990.o s2988 rfl
       refine s1 p2990.z (okPickF s2992 s2991) rfl fun a2993 p2994 s2995 => ?_
       exact rN ⟨rfl, rfl, ((((Pg.refl p2980.z).st p2986 rfl).st p2990 rfl).st p2994 rfl), (orF hb2982 s2995)⟩
      ·have s2996 := bv s2981 hb2982
       refine s1k p2980.z rfl (yd p2980.z rfl rfl s2996) rfl fun a2997 p2998 s2999 => ?_
       have s3000 := p2998.o s2996 rfl
       refine s1k p2998.z rfl (yd p2998.z rfl rfl s3000) rfl fun a3001 p3002 s3003 => ?_
       have s3004 := p3002.o s3000 rfl
       refine s1 p3002.z (okPickT s3004 cst) rfl fun a3005 p3006 s3007 => ?_
       exact rN ⟨rfl, rfl, ((((Pg.refl p2980.z).st p2998 rfl).st p3002 rfl).st p3006 rfl), (orT hb2982 s3007)⟩
     rintro a3008 ⟨pg3009, s3010⟩
     refine s1 pg3009.z (okAs s3010) rfl fun a3011 p3012 s3013 => ?_
     refine rN (thenN ?_)
     refine wp_seq ?_
     refine wp_seq ?_
     refine reg ?_
     refine s1 p3012.z (okMv s3013) rfl fun a3014 p3015 s3016 => ?_
     refine s1 p3015.z (okNot s3016) rfl fun a3017 p3018 s3019 => ?_
     refine rN (thenN ?_)
     have s3020 := p3018.o (p3015.o (p3012.o (pg3009.o (p2980.o (pg2977.o (p2948.o (pg2945.o (p2916.o (pg2913.o (p2884.o (p2881.o (p2878.o (p2874.o (p2870.o (p2866.o (p2862.o s2859 rfl) rfl) rfl) rfl) rfl) rfl) rfl) rfl) rfl) rfl) rfl) rfl) rfl) rfl) rfl) rfl) rfl
     have s3021 := p3018.o (p3015.o (p3012.o (pg3009.o (p2980.o (pg2977.o (p2948.o (pg2945.o (p2916.o (pg2913.o (p2884.o (p2881.o (p2878.o (p2874.o (p2870.o (p2866.o s2863 rfl) rfl) rfl) rfl) rfl) rfl) rfl) rfl) rfl) rfl) rfl) rfl) rfl) rfl) rfl) rfl
     have s3022 := p3018.o (p3015.o (p3012.o (pg3009.o (p2980.o (pg2977.o (p2948.o (pg2945.o (p2916.o (pg2913.o (p2884.o (p2881.o (p2878.o (p2874.o (p2870.o s2867 rfl) rfl) rfl) rfl) rfl) rfl) rfl) rfl) rfl) rfl) rfl) rfl) rfl) rfl) rfl
     have s3023 := p3018.o (p3015.o (p3012.o (pg3009.o (p2980.o (pg2977.o (p2948.o (pg2945.o (p2916.o (pg2913.o (p2884.o (p2881.o (p2878.o (p2874.o s2871 rfl) rfl) rfl) rfl) rfl) rfl) rfl) rfl) rfl) rfl) rfl) rfl) rfl) rfl
     have s3024 := p3018.o (p3015.o (p3012.o (pg3009.o (p2980.o (pg2977.o (p2948.o (pg2945.o (p2916.o (pg2913.o (p2884.o (p2881.o (p2878.o s2875 rfl) rfl) rfl) rfl) rfl) rfl) rfl) rfl) rfl) rfl) rfl) rfl) rfl
     have pg3025 : Pg _ [15, 17, 18, 19, 20, 21, 22, 47, 48, 49, 50, 51, 52, 53, 54, 55, 56, 57, 58, 59, 60, 61, 62, 63, 64, 65, 66, 67, 68, 69, 70, 71, 72, 73, 74, 75, 76, 77, 78] _ _ := ((((((((((((((((((((((((((((((((Pg.refl pg2782.z).st p2785 rfl).st p2789 rfl).st p2793 rfl).st p2797 rfl).st p2801 rfl).st p2805 rfl).st p2821 rfl).st p2835 rfl).st p2838 rfl).st p2842 rfl).st p2846 rfl).st p2850 rfl).st p2854 rfl).st p2858 rfl).st p2862 rfl).st p2866 rfl).st p2870 rfl).st p2874 rfl).st p2878 rfl).st p2881 rfl).st p2884 rfl).tr pg2913 rfl).st p2916 rfl).tr pg2945 rfl).st p2948 rfl).tr pg2977 rfl).st p2980 rfl).tr pg3009 rfl).st p3012 rfl).st p3015 rfl).st p3018 rfl)
     refine cnd s3019 (fun hb3026 => ?_) (fun hb3026 => ?_)
     ·replace h := (ifP hb3026).symm.trans h
      refine wp_seq ?_
      refine reg ?_
      have s3027 := pg3025.o (pg2782.o (pg2768.o s29 rfl) rfl) rfl
      refine s1 pg3025.z (okMv s3027) rfl fun a3028 p3029 s3030 => ?_
      refine s1 p3029.z (okMv s3030) rfl fun a3031 p3032 s3033 => ?_
      refine cutP 3 (fun a' => Pg Try.f3.ntmps [81, 82, 83] a3031 a' ∧ a'.eval (.tmp 83) = .bool (t4 && ((t2817.2.2.2.2).isN))) ?_ ?_
      ·rcases bf t4 with hb3034 | hb3034
       ·have s3035 := bv s3033 hb3034
        refine s1k p3032.z rfl (yd p3032.z rfl rfl s3035) rfl fun a3036 p3037 s3038 => ?_
        have s3039 := p3037.o s3035 rfl
        refine s1k p3037.z rfl (yd p3037.z rfl rfl s3039) rfl fun a3040 p3041 s3042 => ?_
        have s3043 := p3041.o s3039 rfl
        refine s1 p3041.z (okPickF s3043 cst) rfl fun a3044 p3045 s3046 => ?_
        exact rN ⟨rfl, rfl, ((((Pg.refl p3032.z).st p3037 rfl).st p3041 rfl).st p3045 rfl), (andF hb3034 s3046)⟩
       ·have s3047 := bv s3033 hb3034
        have s3048 := p3032.o (p3029.o s3024 rfl) rfl
        refine s1g p3032.z (okMv s3048) rfl (yd p3032.z rfl rfl s3047) fun a3049 p3050 s3051 => ?_
        have s3052 := p3050.o s3047 rfl
        refine s1g p3050.z (okEEqN ef33 s3051 q2829 _) rfl (yd p3050.z rfl rfl s3052) fun a3053 p3054 s3055 => ?_
        have s3056 := p3054.o s3052 rfl
        refine s1 p3054.z (okPickT s3056 s3055) rfl fun a3057 p3058 s3059 => ?_
        exact rN ⟨rfl, rfl, ((((Pg.refl p3032.z).st p3050 rfl).st p3054 rfl).st p3058 rfl), (andT hb3034 s3059)⟩
      rintro a3060 ⟨pg3061, s3062⟩
      refine s1 pg3061.z (okMv s3062) rfl fun a3063 p3064 s3065 => ?_
      refine cutP 3 (fun a' => Pg Try.f3.ntmps [85, 86, 87] a3063 a' ∧ a'.eval (.tmp 87) = .bool ((t4 && ((t2817.2.2.2.2).isN)) && (decide (0 ≤ t2817.2.2.1)))) ?_ ?_
      ·rcases bf (t4 && ((t2817.2.2.2.2).isN)) with hb3066 | hb3066
       ·have s3067 := bv s3065 hb3066
        refine s1k p3064.z rfl (yd p3064.z rfl rfl s3067) rfl fun a3068 p3069 s3070 => ?_
        have s3071 := p3069.o s3067 rfl
        refine s1k p3069.z rfl (yd p3069.z rfl rfl s3071) rfl fun a3072 p3073 s3074 => ?_
        have s3075 := p3073.o s3071 rfl
        refine s1 p3073.z (okPickF s3075 cst) rfl fun a3076 p3077 s3078 => ?_
        exact rN ⟨rfl, rfl, ((((Pg.refl p3064.z).st p3069 rfl).st p3073 rfl).st p3077 rfl), (andF hb3066 s3078)⟩
       ·have s3079 := bv s3065 hb3066
        have s3080 := p3064.o (pg3061.o (p3032.o (p3029.o s3022 rfl) rfl) rfl) rfl
        refine s1g p3064.z (okMv s3080) rfl (yd p3064.z rfl rfl s3079) fun a3081 p3082 s3083 => ?_
        have s3084 := p3082.o s3079 rfl
        refine s1g p3082.z (okGe s3083 cst) rfl (yd p3082.z rfl rfl s3084) fun a3085 p3086 s3087 => ?_
        have s3088 := p3086.o s3084 rfl
        refine s1 p3086.z (okPickT s3088 s3087) rfl fun a3089 p3090 s3091 => ?_
        exact rN ⟨rfl, rfl, ((((Pg.refl p3064.z).st p3082 rfl).st p3086 rfl).st p3090 rfl), (andT hb3066 s3091)⟩
      rintro a3092 ⟨pg3093, s3094⟩
      refine s1 pg3093.z (okMv s3094) rfl fun a3095 p3096 s3097 => ?_
      refine cutP 3 (fun a' => Pg Try.f3.ntmps [89, 90, 91] a3095 a' ∧ a'.eval (.tmp 91) = .bool (((t4 && ((t2817.2.2.2.2).isN)) && (decide (0 ≤ t2817.2.2.1))) && (decide (t2817.2.2.1 ≤ 3)))) ?_ ?_
      ·rcases bf ((t4 && ((t2817.2.2.2.2).isN)) && (decide (0 ≤ t2817.2.2.1))) with hb3098 | hb3098
       ·have s3099 := bv s3097 hb3098
        refine s1k p3096.z rfl (yd p3096.z rfl rfl s3099) rfl fun a3100 p3101 s3102 => ?_
        have s3103 := p3101.o s3099 rfl
        refine s1k p3101.z rfl (yd p3101.z rfl rfl s3103) rfl fun a3104 p3105 s3106 => ?_
        have s3107 := p3105.o s3103 rfl
        refine s1 p3105.z (okPickF s3107 cst) rfl fun a3108 p3109 s3110 => ?_
        exact rN ⟨rfl, rfl, ((((Pg.refl p3096.z).st p3101 rfl).st p3105 rfl).st p3109 rfl), (andF hb3098 s3110)⟩
       ·have s3111 := bv s3097 hb3098
        have s3112 := p3096.o (pg3093.o (p3064.o (pg3061.o (p3032.o (p3029.o s3022 rfl) rfl) rfl) rfl) rfl) rfl
        refine s1g p3096.z (okMv s3112) rfl (yd p3096.z rfl rfl s3111) fun a3113 p3114 s3115 => ?_
        have s3116 := p3114.o s3111 rfl
        refine s1g p3114.z (okLe s3115 cst) rfl (yd p3114.z rfl rfl s3116) fun a3117 p3118 s3119 => ?_
        have s3120 := p3118.o s3116 rfl
        refine s1 p3118.z (okPickT s3120 s3119) rfl fun a3121 p3122 s3123 => ?_
        exact rN ⟨rfl, rfl, ((((Pg.refl p3096.z).st p3114 rfl).st p3118 rfl).st p3122 rfl), (andT hb3098 s3123)⟩
      rintro a3124 ⟨pg3125, s3126⟩
      refine s1 pg3125.z (okAs s3126) rfl fun a3127 p3128 s3129 => ?_
      refine rN (thenN ?_)
      obtain rfl := Option.some.inj h
      exact wp_ret (thenR (ret1 p3128.z Try.results3 (rvT s3129) ⟨_, rfl, rfl, cx2833.g⟩))
     replace h := (ifN hb3026).symm.trans h
     refine wp_skip (thenN ?_)
     refine wp_seq ?_
     refine reg ?_
     have s3130 := pg3025.o (pg2782.o (pg2768.o s29 rfl) rfl) rfl
     refine s1 pg3025.z (okMv s3130) rfl fun a3131 p3132 s3133 => ?_
     refine s1 p3132.z (okMv s3133) rfl fun a3134 p3135 s3136 => ?_
     refine cutP 4 (fun a' => Pg Try.f3.ntmps [94, 95, 96, 97] a3134 a' ∧ a'.eval (.tmp 97) = .bool (t4 && (decide (t2817.2.2.2.2 = .code 1)))) ?_ ?_
     ·rcases bf t4 with hb3137 | hb3137
      ·have s3138 := bv s3136 hb3137
       refine s1k p3135.z rfl (yd p3135.z rfl rfl s3138) rfl fun a3139 p3140 s3141 => ?_
       have s3142 := p3140.o s3138 rfl
       refine s1k p3140.z rfl (yd p3140.z rfl rfl s3142) rfl fun a3143 p3144 s3145 => ?_
       have s3146 := p3144.o s3142 rfl
       refine s1k p3144.z rfl (yd p3144.z rfl rfl s3146) rfl fun a3147 p3148 s3149 => ?_
       have s3150 := p3148.o s3146 rfl
       refine s1 p3148.z (okPickF s3150 cst) rfl fun a3151 p3152 s3153 => ?_
       exact rN ⟨rfl, rfl, (((((Pg.refl p3135.z).st p3140 rfl).st p3144 rfl).st p3148 rfl).st p3152 rfl), (andF hb3137 s3153)⟩
      ·have s3154 := bv s3136 hb3137
       have s3155 := p3135.o (p3132.o s3024 rfl) rfl
       refine s1g p3135.z (okMv s3155) rfl (yd p3135.z rfl rfl s3154) fun a3156 p3157 s3158 => ?_
       have s3159 := p3157.o s3154 rfl
       refine s1g p3157.z (okMkI Try.underlying36 cst _) rfl (yd p3157.z rfl rfl s3159) fun a3160 p3161 s3162 => ?_
       have s3163 := p3161.o s3159 rfl
       have s3164 := p3161.o s3158 rfl
       refine s1g p3161.z (okEEqC ef33 s3164 q2829 s3162 _) rfl (yd p3161.z rfl rfl s3163) fun a3165 p3166 s3167 => ?_
       have s3168 := p3166.o s3163 rfl
       refine s1 p3166.z (okPickT s3168 s3167) rfl fun a3169 p3170 s3171 => ?_
       exact rN ⟨rfl, rfl, (((((Pg.refl p3135.z).st p3157 rfl).st p3161 rfl).st p3166 rfl).st p3170 rfl), (andT hb3137 s3171)⟩
     rintro a3172 ⟨pg3173, s3174⟩
     refine s1 pg3173.z (okMv s3174) rfl fun a3175 p3176 s3177 => ?_
     refine cutP 4 (fun a' => Pg Try.f3.ntmps [99, 100, 101, 102] a3175 a' ∧ a'.eval (.tmp 102) = .bool ((t4 && (decide (t2817.2.2.2.2 = .code 1))) && ((t2817.1.length : Int) == 0))) ?_ ?_
     ·rcases bf (t4 && (decide (t2817.2.2.2.2 = .code 1))) with hb3178 | hb3178
      ·have s3179 := bv s3177 hb3178
       refine s1k p3176.z rfl (yd p3176.z rfl rfl s3179) rfl fun a3180 p3181 s3182 => ?_
       have s3183 := p3181.o s3179 rfl
       refine s1k p3181.z rfl (yd p3181.z rfl rfl s3183) rfl fun a3184 p3185 s3186 => ?_
       have s3187 := p3185.o s3183 rfl
       refine s1k p3185.z rfl (yd p3185.z rfl rfl s3187) rfl fun a3188 p3189 s3190 => ?_
       have s3191 := p3189.o s3187 rfl
       refine s1 p3189.z (okPickF s3191 cst) rfl fun a3192 p3193 s3194 => ?_
       exact rN ⟨rfl, rfl, (((((Pg.refl p3176.z).st p3181 rfl).st p3185 rfl).st p3189 rfl).st p3193 rfl), (andF hb3178 s3194)⟩
      ·have s3195 := bv s3177 hb3178
       have s3196 := p3176.o (pg3173.o (p3135.o (p3132.o s3020 rfl) rfl) rfl) rfl
       refine s1g p3176.z (okMv s3196) rfl (yd p3176.z rfl rfl s3195) fun a3197 p3198 s3199 => ?_
       have s3200 := p3198.o s3195 rfl
       refine s1g p3198.z (okLenR Try.underlying30 s3199 q2827) rfl (yd p3198.z rfl rfl s3200) fun a3201 p3202 s3203 => ?_
       have s3204 := p3202.o s3200 rfl
       refine s1g p3202.z (okEq s3203 cst) rfl (yd p3202.z rfl rfl s3204) fun a3205 p3206 s3207 => ?_
       have s3208 := p3206.o s3204 rfl
       refine s1 p3206.z (okPickT s3208 s3207) rfl fun a3209 p3210 s3211 => ?_
       exact rN ⟨rfl, rfl, (((((Pg.refl p3176.z).st p3198 rfl).st p3202 rfl).st p3206 rfl).st p3210 rfl), (andT hb3178 s3211)⟩
     rintro a3212 ⟨pg3213, s3214⟩
     refine s1 pg3213.z (okMv s3214) rfl fun a3215 p3216 s3217 => ?_
     refine cutP 4 (fun a' => Pg Try.f3.ntmps [104, 105, 106, 107] a3215 a' ∧ a'.eval (.tmp 107) = .bool (((t4 && (decide (t2817.2.2.2.2 = .code 1))) && ((t2817.1.length : Int) == 0)) && ((t2817.2.1.length : Int) == 0))) ?_ ?_
     ·rcases bf ((t4 && (decide (t2817.2.2.2.2 = .code 1))) && ((t2817.1.length : Int) == 0)) with hb3218 | hb3218
      ·have s3219 := bv s3217 hb3218
       refine s1k p3216.z rfl (yd p3216.z rfl rfl s3219) rfl fun a3220 p3221 s3222 => ?_
       have s3223 := p3221.o s3219 rfl
       refine s1k p3221.z rfl (yd p3221.z rfl rfl s3223) rfl fun a3224 p3225 s3226 => ?_
       have s3227 := p3225.o s3223 rfl
       refine s1k p3225.z rfl (yd p3225.z rfl rfl s3227) rfl fun a3228 p3229 s3230 => ?_
       have s3231 := p3229.o s3227 rfl
       refine s1 p3229.z (okPickF s3231 cst) rfl fun a3232 p3233 s3234 => ?_
       exact rN ⟨rfl, rfl, (((((Pg.refl p3216.z).st p3221 rfl).st p3225 rfl).st p3229 rfl).st p3233 rfl), (andF hb3218 s3234)⟩
      ·have s3235 := bv s3217 hb3218
       have s3236 := p3216.o (pg3213.o (p3176.o (pg3173.o (p3135.o (p3132.o s3021 rfl) rfl) rfl) rfl) rfl) rfl
       refine s1g p3216.z (okMv s3236) rfl (yd p3216.z rfl rfl s3235) fun a3237 p3238 s3239 => ?_
       have s3240 := p3238.o s3235 rfl
       refine s1g p3238.z (okLenR Try.underlying31 s3239 q2828) rfl (yd p3238.z rfl rfl s3240) fun a3241 p3242 s3243 => ?_
       have s3244 := p3242.o s3240 rfl
       refine s1g p3242.z (okEq s3243 cst) rfl (yd p3242.z rfl rfl s3244) fun a3245 p3246 s3247 => ?_
       have s3248 := p3246.o s3244 rfl
       refine s1 p3246.z (okPickT s3248 s3247) rfl fun a3249 p3250 s3251 => ?_
       exact rN ⟨rfl, rfl, (((((Pg.refl p3216.z).st p3238 rfl).st p3242 rfl).st p3246 rfl).st p3250 rfl), (andT hb3218 s3251)⟩
     rintro a3252 ⟨pg3253, s3254⟩
     refine s1 pg3253.z (okMv s3254) rfl fun a3255 p3256 s3257 => ?_
     refine cutP 3 (fun a' => Pg Try.f3.ntmps [109, 110, 111] a3255 a' ∧ a'.eval (.tmp 111) = .bool ((((t4 && (decide (t2817.2.2.2.2 = .code 1))) && ((t2817.1.length : Int) == 0)) && ((t2817.2.1.length : Int) == 0)) && (t2817.2.2.1 == 0))) ?_ ?_
     ·rcases bf (((t4 && (decide (t2817.2.2.2.2 = .code 1))) && ((t2817.1.length : Int) == 0)) && ((t2817.2.1.length : Int) == 0)) with hb3258 | hb3258
      ·have s3259 := bv s3257 hb3258
       refine s1k p3256.z rfl (yd p3256.z rfl rfl s3259) rfl fun a3260 p3261 s3262 => ?_
       have s3263 := p3261.o s3259 rfl
       refine s1k p3261.z rfl (yd p3261.z rfl rfl s3263) rfl fun a3264 p3265 s3266 => ?_
       have s3267 := p3265.o s3263 rfl
       refine s1 p3265.z (okPickF s3267 cst) rfl fun a3268 p3269 s3270 => ?_
       exact rN ⟨rfl, rfl, ((((Pg.refl p3256.z).st p3261 rfl).st p3265 rfl).st p3269 rfl), (andF hb3258 s3270)⟩
      ·have s3271 := bv s3257 hb3258
       have s3272 := p3256.o (pg3253.o (p3216.o (pg3213.o (p3176.o (pg3173.o (p3135.o (p3132.o s3022 rfl) rfl) rfl) rfl) rfl) rfl) rfl) rfl
       refine s1g p3256.z (okMv s3272) rfl (yd p3256.z rfl rfl s3271) fun a3273 p3274 s3275 => ?_
       have s3276 := p3274.o s3271 rfl
       refine s1g p3274.z (okEq s3275 cst) rfl (yd p3274.z rfl rfl s3276) fun a3277 p3278 s3279 => ?_
       have s3280 := p3278.o s3276 rfl
       refine s1 p3278.z (okPickT s3280 s3279) rfl fun a3281 p3282 s3283 => ?_
       exact rN ⟨rfl, rfl, ((((Pg.refl p3256.z).st p3274 rfl).st p3278 rfl).st p3282 rfl), (andT hb3258 s3283)⟩
     rintro a3284 ⟨pg3285, s3286⟩
     refine s1 pg3285.z (okMv s3286) rfl fun a3287 p3288 s3289 => ?_
     refine cutP 3 (fun a' => Pg Try.f3.ntmps [113, 114, 115] a3287 a' ∧ a'.eval (.tmp 115) = .bool (((((t4 && (decide (t2817.2.2.2.2 = .code 1))) && ((t2817.1.length : Int) == 0)) && ((t2817.2.1.length : Int) == 0)) && (t2817.2.2.1 == 0)) && (t2817.2.2.2.1 == 0))) ?_ ?_
     ·rcases bf ((((t4 && (decide (t2817.2.2.2.2 = .code 1))) && ((t2817.1.length : Int) == 0)) && ((t2817.2.1.length : Int) == 0)) && (t2817.2.2.1 == 0)) with hb3290 | hb3290
      ·have s3291 := bv s3289 hb3290
       refine s1k p3288.z rfl (yd p3288.z rfl rfl s3291) rfl fun a3292 p3293 s3294 => ?_
       have s3295 := p3293.o s3291 rfl
       refine s1k p3293.z rfl (yd p3293.z rfl rfl s3295) rfl fun a3296 p3297 s3298 => ?_
       have s3299 := p3297.o s3295 rfl
       refine s1 p3297.z (okPickF s3299 cst) rfl fun a3300 p3301 s3302 => ?_
       exact rN ⟨rfl, rfl, ((((Pg.refl p3288.z).st p3293 rfl).st p3297 rfl).st p3301 rfl), (andF hb3290 s3302)⟩
      ·have s3303 := bv s3289 hb3290
       have s3304 := p3288.o (pg3285.o (p3256.o (pg3253.o (p3216.o (pg3213.o (p3176.o (pg3173.o (p3135.o (p3132.o s3023 rfl) rfl) rfl) rfl) rfl) rfl) rfl) rfl) rfl) rfl
       refine s1g p3288.z (okMv s3304) rfl (yd p3288.z rfl rfl s3303) fun a3305 p3306 s3307 => ?_
       have s3308 := p3306.o s3303 rfl
       refine s1g p3306.z (okEq s3307 cst) rfl (yd p3306.z rfl rfl s3308) fun a3309 p3310 s3311 => ?_
       have s3312 := p3310.o s3308 rfl
       refine s1 p3310.z (okPickT s3312 s3311) rfl fun a3313 p3314 s3315 => ?_
       exact rN ⟨rfl, rfl, ((((Pg.refl p3288.z).st p3306 rfl).st p3310 rfl).st p3314 rfl), (andT hb3290 s3315)⟩
     rintro a3316 ⟨pg3317, s3318⟩
     refine s1 pg3317.z (okMv s3318) rfl fun a3319 p3320 s3321 => ?_
     obtain ⟨b3322, hb3323, h⟩ := Option.bind_eq_some_iff.1 h
     refine cutL 4 (fun a' w' => Pg Try.f3.ntmps [117, 118, 119, 120] a3319 a' ∧ a'.eval (.tmp 120) = .bool b3322 ∧ G [] w2820 w') ?_ ?_
     ·rcases bf (((((t4 && (decide (t2817.2.2.2.2 = .code 1))) && ((t2817.1.length : Int) == 0)) && ((t2817.2.1.length : Int) == 0)) && (t2817.2.2.1 == 0)) && (t2817.2.2.2.1 == 0)) with hb3324 | hb3324
      ·have s3325 := bv s3321 hb3324
       replace hb3323 := (ifN hb3324).symm.trans hb3323
       clear h; have h := hb3323; clear hb3323
       refine s1k p3320.z rfl (yd p3320.z rfl rfl s3325) rfl fun a3326 p3327 s3328 => ?_
       have s3329 := p3327.o s3325 rfl
       refine s1k p3327.z rfl (yd p3327.z rfl rfl s3329) rfl fun a3330 p3331 s3332 => ?_
       have s3333 := p3331.o s3329 rfl
       refine s1k p3331.z rfl (yd p3331.z rfl rfl s3333) rfl fun a3334 p3335 s3336 => ?_
       have s3337 := p3335.o s3333 rfl
       refine s1 p3335.z (okPickF s3337 cst) rfl fun a3338 p3339 s3340 => ?_
       obtain rfl := Option.some.inj h
       exact rN ⟨rfl, (((((Pg.refl p3320.z).st p3327 rfl).st p3331 rfl).st p3335 rfl).st p3339 rfl), s3340, (G.refl _ _)⟩
      ·have s3341 := bv s3321 hb3324
       replace hb3323 := (ifP hb3324).symm.trans hb3323
       clear h; have h := hb3323; clear hb3323
       have s3342 := p3320.o (pg3317.o (p3288.o (pg3285.o (p3256.o (pg3253.o (p3216.o (pg3213.o (p3176.o (pg3173.o (p3135.o (p3132.o (pg3025.o (pg2782.o s2762 rfl) rfl) rfl) rfl) rfl) rfl) rfl) rfl) rfl) rfl) rfl) rfl) rfl) rfl
       refine s1g p3320.z (okMv s3342) rfl (yd p3320.z rfl rfl s3341) fun a3343 p3344 s3345 => ?_
       have s3346 := p3344.o s3341 rfl
       have m3347 := m2815.g0 g2832
       have q3348 := (((q2706.t0 (tAp g2713 (fun _ h => nilO h) f2715) g2713).t0 g2751.t0 g2751).t0 ((Tr.refl (ownB v2709 ++ (oby70 :: (ownB hpy70_0 ++ (oby147 :: (ownB hpy147_0 ++ L))))) w2747).sub (fun i h => (List.mem_append_right _ h))) (G.refl [] w2747)).t0 g2832.t0 g2832
       have m3349 := m2816.g0 g2832
       obtain ⟨t3350, ht3351, h⟩ := Option.bind_eq_some_iff.1 h
       refine lG rfl (yd p3344.z rfl rfl s3346) (oCall p3344.z Try.call11 (ag1 s3345) (c11 (oby147 :: (ownB hpy147_0 ++ L)) w2820 y70 oby70 hpy70_0 cx2833.lt (sepC (show ∀ x ∈ [oby70], x ∉ (ownB hpy70_0 ++ (oby147 :: (ownB hpy147_0 ++ L))) from (in1 (na (D2650.bo (i := 0) (j := 1) rfl rfl rfl) (nc (D2650.bb (i := 0) (j := 2) rfl rfl rfl) (na (D2650.bo (i := 0) (j := 3) rfl rfl rfl) (fun h => Nat.lt_irrefl _ (Nat.lt_of_lt_of_le (hL _ h) (Nat.le_trans cx50.g.sz (f67 _ (List.mem_append_left _ (.head _))))))))))) (sepC (show ∀ x ∈ ownB hpy70_0, x ∉ (oby147 :: (ownB hpy147_0 ++ L)) from (fun x hx => (nc (nbo (D2650.ob (i := 1) (j := 2) rfl rfl rfl) hx) (na ((D2650.dj (i := 1) (j := 3) rfl rfl rfl) x hx) ((fun x hx hl => D2650.dl (i := 1) rfl x hx hl) x hx))))) sepN)) m3347 q3348 _ ht3351) rfl fun v3355 a3352 w3353 hp3356 p3354 sp3354 => ?_)
       obtain ⟨rfl, g3359⟩ := hp3356
       have cx3360 := cx2833.ca g3359
       have s3361 := p3354.o s3346 rfl
       refine s1g p3354.z (okEq sp3354 cst) rfl (yd p3354.z rfl rfl s3361) fun a3362 p3363 s3364 => ?_
       have s3365 := p3363.o s3361 rfl
       refine s1 p3363.z (okPickT s3365 s3364) rfl fun a3366 p3367 s3368 => ?_
       obtain rfl := Option.some.inj h
       exact rN ⟨rfl, (((((Pg.refl p3320.z).st p3344 rfl).st p3354 rfl).st p3363 rfl).st p3367 rfl), s3368, g3359⟩
     rintro a3369 w3372 ⟨pg3370, s3371, g3373⟩
     have cx3374 := cx2833.ca g3373
     refine s1 pg3370.z (okAs s3371) rfl fun a3375 p3376 s3377 => ?_
     refine rN (thenN ?_)
     obtain rfl := Option.some.inj h
     exact wp_ret (ret1 p3376.z Try.results3 (rvT s3377) ⟨_, rfl, rfl, cx3374.g⟩)
    replace h := (ifN hb2783).symm.trans h
    refine wp_skip (thenN ?_)
    refine wp_seq ?_
    refine reg ?_
    have s3378 := pg2782.o (pg2768.o s27 rfl) rfl
    refine s1 pg2782.z (okMv s3378) rfl fun a3379 p3380 s3381 => ?_
    have s3382 := p3380.o s2780 rfl
    refine s1 p3380.z (okMv s3382) rfl fun a3383 p3384 s3385 => ?_
    have s3386 := p3384.o (p3380.o (pg2782.o s2766 rfl) rfl) rfl
    refine s1 p3384.z (okMv s3386) rfl fun a3387 p3388 s3389 => ?_
    have s3390 := p3388.o (p3384.o (p3380.o (pg2782.o (pg2768.o (pg30.o s0_1 rfl) rfl) rfl) rfl) rfl) rfl
    refine s1 p3388.z (okMv s3390) rfl fun a3391 p3392 s3393 => ?_
    have s3394 := p3392.o (p3388.o (p3384.o (p3380.o (pg2782.o s2764 rfl) rfl) rfl) rfl) rfl
    refine s1 p3392.z (okMv s3394) rfl fun a3395 p3396 s3397 => ?_
    have s3398 := p3396.o (p3392.o (p3388.o (p3384.o s3381 rfl) rfl) rfl) rfl
    have s3399 := p3396.o (p3392.o (p3388.o s3385 rfl) rfl) rfl
    have s3400 := p3396.o (p3392.o s3389 rfl) rfl
    have s3401 := p3396.o s3393 rfl
    have q3402 := q2712.t0 g2751.t0 g2751
    have q3403 : RdS KTFrame (oby70 :: (ownB hpy70_0 ++ (oby147 :: (ownB hpy147_0 ++ L)))) w2747 v2709 z2702 := q3402.rd (fun i h => (List.mem_append_right _ h)) (fun b hb => (not_cons (fun e => n2718 (e ▸ hb)) (not_app ((djs n2720) _ hb) (not_cons (fun e => n2719 (e ▸ hb)) (not_app ((djs n2721) _ hb) (nb2716 _ hb))))))
    have cx3404 := cx2752.sub (fun i h => (List.mem_append_right _ h))
    have q3405 := q20.mono (((((((tAp g43 (fun _ h => nilO h) f45).trans ((Tr.refl (ownB v39 ++ L) w40).sub (fun i h => (List.mem_append_right _ h)))).trans t2654).trans g2694.t0).trans (tAp g2713 (fun _ h => nilO h) f2715)).trans g2751.t0).trans ((Tr.refl (ownB v2709 ++ (oby70 :: (ownB hpy70_0 ++ (oby147 :: (ownB hpy147_0 ++ L))))) w2747).sub (fun i h => (List.mem_append_right _ h))))
    have m3406 := ((m2705.g0 g2713).g0 g2751).g0 (G.refl [] w2747)
    have q3407 := ((q2707.t0 (tAp g2713 (fun _ h => nilO h) f2715) g2713).t0 g2751.t0 g2751).t0 ((Tr.refl (ownB v2709 ++ (oby70 :: (ownB hpy70_0 ++ (oby147 :: (ownB hpy147_0 ++ L))))) w2747).sub (fun i h => (List.mem_append_right _ h))) (G.refl [] w2747)
    have m3408 := ((m2704.g0 g2713).g0 g2751).g0 (G.refl [] w2747)
    obtain ⟨t3409, ht3410, h⟩ := Option.bind_eq_some_iff.1 h
    refine lS (oCall p3396.z Try.call10 (ag5 s3398 s3399 s3400 s3401 s3397) (c10_n1 (oby70 :: (ownB hpy70_0 ++ L)) w2747 x0 h0 y147 oby147 hpy147_0 x1 z2702 v2709 (fun i h => cx3404.lt i ((List.mem_cons.1 h).elim (fun e => e ▸ (.tail _ (List.mem_append_right _ (.head _)))) (fun h => (List.mem_append.1 h).elim (fun h => (.tail _ (List.mem_append_right _ (.tail _ (List.mem_append_left _ h))))) (fun h => (List.mem_cons.1 h).elim (fun e => e ▸ (.head _)) (fun h => (List.mem_append.1 h).elim (fun h => (.tail _ (List.mem_append_left _ h))) (fun h => (.tail _ (List.mem_append_right _ (.tail _ (List.mem_append_right _ h)))))))))) (sepC (show ∀ x ∈ [oby147], x ∉ (ownB hpy147_0 ++ (oby70 :: (ownB hpy70_0 ++ L))) from (in1 (na (D2650.bo (i := 2) (j := 3) rfl rfl rfl) (nc (D2650.bb (i := 0) (j := 2) rfl rfl rfl).symm (na (D2650.ob (i := 1) (j := 2) rfl rfl rfl) (fun h => Nat.lt_irrefl _ (Nat.lt_of_lt_of_le (hL _ h) (Nat.le_trans cx50.g.sz (f68 _ (List.mem_append_left _ (.head _))))))))))) (sepC (show ∀ x ∈ ownB hpy147_0, x ∉ (oby70 :: (ownB hpy70_0 ++ L)) from (fun x hx => (nc (nbo (D2650.bo (i := 0) (j := 3) rfl rfl rfl) hx) (na ((djs (D2650.dj (i := 1) (j := 3) rfl rfl rfl)) x hx) ((fun x hx hl => D2650.dl (i := 3) rfl x hx hl) x hx))))) sepN)) (q3405.mono ((Tr.refl _ _).sub (fun i h => (List.mem_cons.1 h).elim (fun e => e ▸ (.tail _ (List.mem_append_right _ (.head _)))) (fun h => (List.mem_append.1 h).elim (fun h => (.tail _ (List.mem_append_right _ (.tail _ (List.mem_append_left _ h))))) (fun h => (List.mem_cons.1 h).elim (fun e => e ▸ (.head _)) (fun h => (List.mem_append.1 h).elim (fun h => (.tail _ (List.mem_append_left _ h))) (fun h => (.tail _ (List.mem_append_right _ (.tail _ (List.mem_append_right _ h))))))))))) m3406 (q3407.sub (fun i h => (List.mem_cons.1 h).elim (fun e => e ▸ (.tail _ (List.mem_append_right _ (.head _)))) (fun h => (List.mem_append.1 h).elim (fun h => (.tail _ (List.mem_append_right _ (.tail _ (List.mem_append_left _ h))))) (fun h => (List.mem_cons.1 h).elim (fun e => e ▸ (.head _)) (fun h => (List.mem_append.1 h).elim (fun h => (.tail _ (List.mem_append_left _ h))) (fun h => (.tail _ (List.mem_append_right _ (.tail _ (List.mem_append_right _ h)))))))))) (q3403.mono ((Tr.refl _ _).sub (fun i h => (List.mem_cons.1 h).elim (fun e => e ▸ (.tail _ (List.mem_append_right _ (.head _)))) (fun h => (List.mem_append.1 h).elim (fun h => (.tail _ (List.mem_append_right _ (.tail _ (List.mem_append_left _ h))))) (fun h => (List.mem_cons.1 h).elim (fun e => e ▸ (.head _)) (fun h => (List.mem_append.1 h).elim (fun h => (.tail _ (List.mem_append_left _ h))) (fun h => (.tail _ (List.mem_append_right _ (.tail _ (List.mem_append_right _ h))))))))))) _ ht3410) rfl fun v3414 a3411 w3412 hp3415 p3413 sp3413 => ?_)
    obtain ⟨h3416, h3417, h3418, rfl, q3419, q3420, q3421, g3424⟩ := hp3415
    have cx3425 := cx3404.ca g3424
    have q3426 := q3419.mono ((Tr.refl _ _).sub (fun i h => (List.mem_cons.1 h).elim (fun e => e ▸ (.tail _ (List.mem_append_right _ (.head _)))) (fun h => (List.mem_append.1 h).elim (fun h => (.tail _ (List.mem_append_right _ (.tail _ (List.mem_append_left _ h))))) (fun h => (List.mem_cons.1 h).elim (fun e => e ▸ (.head _)) (fun h => (List.mem_append.1 h).elim (fun h => (.tail _ (List.mem_append_left _ h))) (fun h => (.tail _ (List.mem_append_right _ (.tail _ (List.mem_append_right _ h))))))))))
    have q3427 := q3420.mono ((Tr.refl _ _).sub (fun i h => (List.mem_cons.1 h).elim (fun e => e ▸ (.tail _ (List.mem_append_right _ (.head _)))) (fun h => (List.mem_append.1 h).elim (fun h => (.tail _ (List.mem_append_right _ (.tail _ (List.mem_append_left _ h))))) (fun h => (List.mem_cons.1 h).elim (fun e => e ▸ (.head _)) (fun h => (List.mem_append.1 h).elim (fun h => (.tail _ (List.mem_append_left _ h))) (fun h => (.tail _ (List.mem_append_right _ (.tail _ (List.mem_append_right _ h))))))))))
    have q3428 := q3421.mono ((Tr.refl _ _).sub (fun i h => (List.mem_cons.1 h).elim (fun e => e ▸ (.tail _ (List.mem_append_right _ (.head _)))) (fun h => (List.mem_append.1 h).elim (fun h => (.tail _ (List.mem_append_right _ (.tail _ (List.mem_append_left _ h))))) (fun h => (List.mem_cons.1 h).elim (fun e => e ▸ (.head _)) (fun h => (List.mem_append.1 h).elim (fun h => (.tail _ (List.mem_append_left _ h))) (fun h => (.tail _ (List.mem_append_right _ (.tail _ (List.mem_append_right _ h))))))))))
    refine s1 p3413.z (okMv sp3413) rfl fun a3429 p3430 s3431 => ?_
    refine s1 p3430.z (okExt (vs := [_, _, _, _, _]) s3431 rfl) rfl fun a3432 p3433 s3434 => ?_
    have s3435 := p3433.o s3431 rfl
    refine s1 p3433.z (okExt (vs := [_, _, _, _, _]) s3435 rfl) rfl fun a3436 p3437 s3438 => ?_
    have s3439 := p3437.o s3435 rfl
    refine s1 p3437.z (okExt (vs := [_, _, _, _, _]) s3439 rfl) rfl fun a3440 p3441 s3442 => ?_
    have s3443 := p3441.o s3439 rfl
    refine s1 p3441.z (okExt (vs := [_, _, _, _, _]) s3443 rfl) rfl fun a3444 p3445 s3446 => ?_
    have s3447 := p3445.o s3443 rfl
    refine s1 p3445.z (okExt (vs := [_, _, _, _, _]) s3447 rfl) rfl fun a3448 p3449 s3450 => ?_
    have s3451 := p3449.o (p3445.o (p3441.o (p3437.o s3434 rfl) rfl) rfl) rfl
    refine s1 p3449.z (okAs s3451) rfl fun a3452 p3453 s3454 => ?_
    have s3455 := p3453.o (p3449.o (p3445.o (p3441.o s3438 rfl) rfl) rfl) rfl
    refine s1 p3453.z (okAs s3455) rfl fun a3456 p3457 s3458 => ?_
    have s3459 := p3457.o (p3453.o (p3449.o (p3445.o s3442 rfl) rfl) rfl) rfl
    refine s1 p3457.z (okAs s3459) rfl fun a3460 p3461 s3462 => ?_
    have s3463 := p3461.o (p3457.o (p3453.o (p3449.o s3446 rfl) rfl) rfl) rfl
    refine s1 p3461.z (okAs s3463) rfl fun a3464 p3465 s3466 => ?_
    have s3467 := p3465.o (p3461.o (p3457.o (p3453.o s3450 rfl) rfl) rfl) rfl
    refine s1 p3465.z (okAs s3467) rfl fun a3468 p3469 s3470 => ?_
    refine rN (thenN ?_)
    refine wp_seq ?_
    refine reg ?_
    have s3471 := p3469.o (p3465.o (p3461.o (p3457.o (p3453.o (p3449.o (p3445.o (p3441.o (p3437.o (p3433.o (p3430.o (p3413.o (p3396.o (p3392.o (p3388.o (p3384.o (p3380.o s2781 rfl) rfl) rfl) rfl) rfl) rfl) rfl) rfl) rfl) rfl) rfl) rfl) rfl) rfl) rfl) rfl) rfl
    refine s1 p3469.z (okMv s3471) rfl fun a3472 p3473 s3474 => ?_
    refine s1 p3473.z (okGt s3474 cst) rfl fun a3475 p3476 s3477 => ?_
    refine s1 p3476.z (okMv s3477) rfl fun a3478 p3479 s3480 => ?_
    refine cutP 3 (fun a' => Pg Try.f3.ntmps [62, 63, 64] a3478 a' ∧ a'.eval (.tmp 64) = .bool ((decide (0 < t2744)) || (decide (x1 < 0)))) ?_ ?_
    ·rcases bf (decide (0 < t2744)) with hb3481 | hb3481
     ·have s3482 := bv s3480 hb3481
      have s3483 := p3479.o (p3476.o (p3473.o (p3469.o (p3465.o (p3461.o (p3457.o (p3453.o (p3449.o (p3445.o (p3441.o (p3437.o (p3433.o (p3430.o (p3413.o (p3396.o (p3392.o s3390 rfl) rfl) rfl) rfl) rfl) rfl) rfl) rfl) rfl) rfl) rfl) rfl) rfl) rfl) rfl) rfl) rfl
      refine s1g p3479.z (okMv s3483) rfl (yd p3479.z rfl rfl s3482) fun a3484 p3485 s3486 => ?_
      have s3487 := p3485.o s3482 rfl
      refine s1g p3485.z (okLt s3486 cst) rfl (yd p3485.z rfl rfl s3487) fun a3488 p3489 s3490 => ?_
      have s3491 := p3489.o s3487 rfl
      refine s1 p3489.z (okPickF s3491 s3490) rfl fun a3492 p3493 s3494 => ?_
      exact rN ⟨rfl, rfl, ((((Pg.refl p3479.z).st p3485 rfl).st p3489 rfl).st p3493 rfl), (orF hb3481 s3494)⟩
     ·have s3495 := bv s3480 hb3481
      refine s1k p3479.z rfl (yd p3479.z rfl rfl s3495) rfl fun a3496 p3497 s3498 => ?_
      have s3499 := p3497.o s3495 rfl
      refine s1k p3497.z rfl (yd p3497.z rfl rfl s3499) rfl fun a3500 p3501 s3502 => ?_
      have s3503 := p3501.o s3499 rfl
      refine s1 p3501.z (okPickT s3503 cst) rfl fun a3504 p3505 s3506 => ?_
      exact rN ⟨rfl, rfl, ((((Pg.refl p3479.z).st p3497 rfl).st p3501 rfl).st p3505 rfl), (orT hb3481 s3506)⟩
    rintro a3507 ⟨pg3508, s3509⟩
    refine s1 pg3508.z (okMv s3509) rfl fun a3510 p3511 s3512 => ?_
    refine cutP 3 (fun a' => Pg Try.f3.ntmps [66, 67, 68] a3510 a' ∧ a'.eval (.tmp 68) = .bool (((decide (0 < t2744)) || (decide (x1 < 0))) || (decide (1 < x1)))) ?_ ?_
    ·rcases bf ((decide (0 < t2744)) || (decide (x1 < 0))) with hb3513 | hb3513
     ·have s3514 := bv s3512 hb3513
      have s3515 := p3511.o (pg3508.o (p3479.o (p3476.o (p3473.o (p3469.o (p3465.o (p3461.o (p3457.o (p3453.o (p3449.o (p3445.o (p3441.o (p3437.o (p3433.o (p3430.o (p3413.o (p3396.o (p3392.o s3390 rfl) rfl) rfl) rfl) rfl) rfl) rfl) rfl) rfl) rfl) rfl) rfl) rfl) rfl) rfl) rfl) rfl) rfl) rfl
      refine s1g p3511.z (okMv s3515) rfl (yd p3511.z rfl rfl s3514) fun a3516 p3517 s3518 => ?_
      have s3519 := p3517.o s3514 rfl
      refine s1g p3517.z (okGt s3518 cst) rfl (yd p3517.z rfl rfl s3519) fun a3520 p3521 s3522 => ?_
      have s3523 := p3521.o s3519 rfl
      refine s1 p3521.z (okPickF s3523 s3522) rfl fun a3524 p3525 s3526 => ?_
      exact rN ⟨rfl, rfl, ((((Pg.refl p3511.z).st p3517 rfl).st p3521 rfl).st p3525 rfl), (orF hb3513 s3526)⟩
     ·have s3527 := bv s3512 hb3513
      refine s1k p3511.z rfl (yd p3511.z rfl rfl s3527) rfl fun a3528 p3529 s3530 => ?_
      have s3531 := p3529.o s3527 rfl
      refine s1k p3529.z rfl (yd p3529.z rfl rfl s3531) rfl fun a3532 p3533 s3534 => ?_
      have s3535 := p3533.o s3531 rfl
      refine s1 p3533.z (okPickT s3535 cst) rfl fun a3536 p3537 s3538 => ?_
      exact rN ⟨rfl, rfl, ((((Pg.refl p3511.z).st p3529 rfl).st p3533 rfl).st p3537 rfl), (orT hb3513 s3538)⟩
    rintro a3539 ⟨pg3540, s3541⟩
    refine s1 pg3540.z (okMv s3541) rfl fun a3542 p3543 s3544 => ?_
    refine cutP 3 (fun a' => Pg Try.f3.ntmps [70, 71, 72] a3542 a' ∧ a'.eval (.tmp 72) = .bool ((((decide (0 < t2744)) || (decide (x1 < 0))) || (decide (1 < x1))) || (t2687 == 0))) ?_ ?_
    ·rcases bf (((decide (0 < t2744)) || (decide (x1 < 0))) || (decide (1 < x1))) with hb3545 | hb3545
     ·have s3546 := bv s3544 hb3545
      have s3547 := p3543.o (pg3540.o (p3511.o (pg3508.o (p3479.o (p3476.o (p3473.o (p3469.o (p3465.o (p3461.o (p3457.o (p3453.o (p3449.o (p3445.o (p3441.o (p3437.o (p3433.o (p3430.o (p3413.o (p3396.o (p3392.o (p3388.o (p3384.o (p3380.o (pg2782.o s2763 rfl) rfl) rfl) rfl) rfl) rfl) rfl) rfl) rfl) rfl) rfl) rfl) rfl) rfl) rfl) rfl) rfl) rfl) rfl) rfl) rfl) rfl) rfl) rfl) rfl
      refine s1g p3543.z (okMv s3547) rfl (yd p3543.z rfl rfl s3546) fun a3548 p3549 s3550 => ?_
      have s3551 := p3549.o s3546 rfl
      refine s1g p3549.z (okEq s3550 cst) rfl (yd p3549.z rfl rfl s3551) fun a3552 p3553 s3554 => ?_
      have s3555 := p3553.o s3551 rfl
      refine s1 p3553.z (okPickF s3555 s3554) rfl fun a3556 p3557 s3558 => ?_
      exact rN ⟨rfl, rfl, ((((Pg.refl p3543.z).st p3549 rfl).st p3553 rfl).st p3557 rfl), (orF hb3545 s3558)⟩
     ·have s3559 := bv s3544 hb3545
      refine s1k p3543.z rfl (yd p3543.z rfl rfl s3559) rfl fun a3560 p3561 s3562 => ?_
      have s3563 := p3561.o s3559 rfl
      refine s1k p3561.z rfl (yd p3561.z rfl rfl s3563) rfl fun a3564 p3565 s3566 => ?_
      have s3567 := p3565.o s3563 rfl
      refine s1 p3565.z (okPickT s3567 cst) rfl fun a3568 p3569 s3570 => ?_
      exact rN ⟨rfl, rfl, ((((Pg.refl p3543.z).st p3561 rfl).st p3565 rfl).st p3569 rfl), (orT hb3545 s3570)⟩
    rintro a3571 ⟨pg3572, s3573⟩
    refine s1 pg3572.z (okMv s3573) rfl fun a3574 p3575 s3576 => ?_
    refine cutP 3 (fun a' => Pg Try.f3.ntmps [74, 75, 76] a3574 a' ∧ a'.eval (.tmp 76) = .bool (((((decide (0 < t2744)) || (decide (x1 < 0))) || (decide (1 < x1))) || (t2687 == 0)) || (decide (16 < t2687)))) ?_ ?_
    ·rcases bf ((((decide (0 < t2744)) || (decide (x1 < 0))) || (decide (1 < x1))) || (t2687 == 0)) with hb3577 | hb3577
     ·have s3578 := bv s3576 hb3577
      have s3579 := p3575.o (pg3572.o (p3543.o (pg3540.o (p3511.o (pg3508.o (p3479.o (p3476.o (p3473.o (p3469.o (p3465.o (p3461.o (p3457.o (p3453.o (p3449.o (p3445.o (p3441.o (p3437.o (p3433.o (p3430.o (p3413.o (p3396.o (p3392.o (p3388.o (p3384.o (p3380.o (pg2782.o s2763 rfl) rfl) rfl) rfl) rfl) rfl) rfl) rfl) rfl) rfl) rfl) rfl) rfl) rfl) rfl) rfl) rfl) rfl) rfl) rfl) rfl) rfl) rfl) rfl) rfl) rfl) rfl
      refine s1g p3575.z (okMv s3579) rfl (yd p3575.z rfl rfl s3578) fun a3580 p3581 s3582 => ?_
      have s3583 := p3581.o s3578 rfl
      refine s1g p3581.z (okGt s3582 cst) rfl (yd p3581.z rfl rfl s3583) fun a3584 p3585 s3586 => ?_
      have s3587 := p3585.o s3583 rfl
      refine s1 p3585.z (okPickF s3587 s3586) rfl fun a3588 p3589 s3590 => ?_
      exact rN ⟨rfl, rfl, ((((Pg.refl p3575.z).st p3581 rfl).st p3585 rfl).st p3589 rfl), (orF hb3577 s3590)⟩
     ·have s3591 := bv s3576 hb3577
      refine s1k p3575.z rfl (yd p3575.z rfl rfl s3591) rfl fun a3592 p3593 s3594 => ?_
      have s3595 := p3593.o s3591 rfl
      refine s1k p3593.z rfl (yd p3593.z rfl rfl s3595) rfl fun a3596 p3597 s3598 => ?_
      have s3599 := p3597.o s3595 rfl
      refine s1 p3597.z (okPickT s3599 cst) rfl fun a3600 p3601 s3602 => ?_
      exact rN ⟨rfl, rfl, ((((Pg.refl p3575.z).st p3593 rfl).st p3597 rfl).st p3601 rfl), (orT hb3577 s3602)⟩
    rintro a3603 ⟨pg3604, s3605⟩
    refine s1 pg3604.z (okAs s3605) rfl fun a3606 p3607 s3608 => ?_
    refine rN (thenN ?_)
    refine wp_seq ?_
    refine wp_seq ?_
    refine reg ?_
    refine s1 p3607.z (okMv s3608) rfl fun a3609 p3610 s3611 => ?_
    refine s1 p3610.z (okNot s3611) rfl fun a3612 p3613 s3614 => ?_
    refine rN (thenN ?_)
    have s3615 := p3613.o (p3610.o (p3607.o (pg3604.o (p3575.o (pg3572.o (p3543.o (pg3540.o (p3511.o (pg3508.o (p3479.o (p3476.o (p3473.o (p3469.o (p3465.o (p3461.o (p3457.o s3454 rfl) rfl) rfl) rfl) rfl) rfl) rfl) rfl) rfl) rfl) rfl) rfl) rfl) rfl) rfl) rfl) rfl
    have s3616 := p3613.o (p3610.o (p3607.o (pg3604.o (p3575.o (pg3572.o (p3543.o (pg3540.o (p3511.o (pg3508.o (p3479.o (p3476.o (p3473.o (p3469.o (p3465.o (p3461.o s3458 rfl) rfl) rfl) rfl) rfl) rfl) rfl) rfl) rfl) rfl) rfl) rfl) rfl) rfl) rfl) rfl
    have s3617 := p3613.o (p3610.o (p3607.o (pg3604.o (p3575.o (pg3572.o (p3543.o (pg3540.o (p3511.o (pg3508.o (p3479.o (p3476.o (p3473.o (p3469.o (p3465.o s3462 rfl) rfl) rfl) rfl) rfl) rfl) rfl) rfl) rfl) rfl) rfl) rfl) rfl) rfl) rfl
    have s3618 := p3613.o (p3610.o (p3607.o (pg3604.o (p3575.o (pg3572.o (p3543.o (pg3540.o (p3511.o (pg3508.o (p3479.o (p3476.o (p3473.o (p3469.o s3466 rfl) rfl) rfl) rfl) rfl) rfl) rfl) rfl) rfl) rfl) rfl) rfl) rfl) rfl
    have s3619 := p3613.o (p3610.o (p3607.o (pg3604.o (p3575.o (pg3572.o (p3543.o (pg3540.o (p3511.o (pg3508.o (p3479.o (p3476.o (p3473.o s3470 rfl) rfl) rfl) rfl) rfl) rfl) rfl) rfl) rfl) rfl) rfl) rfl) rfl
    have pg3620 : Pg _ [17, 18, 19, 20, 21, 22, 47, 48, 49, 50, 51, 52, 53, 54, 55, 56, 57, 58, 59, 60, 61, 62, 63, 64, 65, 66, 67, 68, 69, 70, 71, 72, 73, 74, 75, 76, 77, 78] _ _ := (((((((((((((((((((((((((((((((Pg.refl pg2782.z).st p3380 rfl).st p3384 rfl).st p3388 rfl).st p3392 rfl).st p3396 rfl).st p3413 rfl).st p3430 rfl).st p3433 rfl).st p3437 rfl).st p3441 rfl).st p3445 rfl).st p3449 rfl).st p3453 rfl).st p3457 rfl).st p3461 rfl).st p3465 rfl).st p3469 rfl).st p3473 rfl).st p3476 rfl).st p3479 rfl).tr pg3508 rfl).st p3511 rfl).tr pg3540 rfl).st p3543 rfl).tr pg3572 rfl).st p3575 rfl).tr pg3604 rfl).st p3607 rfl).st p3610 rfl).st p3613 rfl)
    refine cnd s3614 (fun hb3621 => ?_) (fun hb3621 => ?_)
    ·replace h := (ifP hb3621).symm.trans h
     refine wp_seq ?_
     refine reg ?_
     have s3622 := pg3620.o (pg2782.o (pg2768.o s29 rfl) rfl) rfl
     refine s1 pg3620.z (okMv s3622) rfl fun a3623 p3624 s3625 => ?_
     refine s1 p3624.z (okMv s3625) rfl fun a3626 p3627 s3628 => ?_
     refine cutP 3 (fun a' => Pg Try.f3.ntmps [81, 82, 83] a3626 a' ∧ a'.eval (.tmp 83) = .bool (t4 && ((t3409.2.2.2.2).isN))) ?_ ?_
     ·rcases bf t4 with hb3629 | hb3629
      ·have s3630 := bv s3628 hb3629
       refine s1k p3627.z rfl (yd p3627.z rfl rfl s3630) rfl fun a3631 p3632 s3633 => ?_
       have s3634 := p3632.o s3630 rfl
       refine s1k p3632.z rfl (yd p3632.z rfl rfl s3634) rfl fun a3635 p3636 s3637 => ?_
       have s3638 := p3636.o s3634 rfl
       refine s1 p3636.z (okPickF s3638 cst) rfl fun a3639 p3640 s3641 => ?_
       exact rN ⟨rfl, rfl, ((((Pg.refl p3627.z).st p3632 rfl).st p3636 rfl).st p3640 rfl), (andF hb3629 s3641)⟩
      ·have s3642 := bv s3628 hb3629
       have s3643 := p3627.o (p3624.o s3619 rfl) rfl
       refine s1g p3627.z (okMv s3643) rfl (yd p3627.z rfl rfl s3642) fun a3644 p3645 s3646 => ?_
       have s3647 := p3645.o s3642 rfl
       refine s1g p3645.z (okEEqN ef33 s3646 q3428 _) rfl (yd p3645.z rfl rfl s3647) fun a3648 p3649 s3650 => ?_
       have s3651 := p3649.o s3647 rfl
       refine s1 p3649.z (okPickT s3651 s3650) rfl fun a3652 p3653 s3654 => ?_
       exact rN ⟨rfl, rfl, ((((Pg.refl p3627.z).st p3645 rfl).st p3649 rfl).st p3653 rfl), (andT hb3629 s3654)⟩
     rintro a3655 ⟨pg3656, s3657⟩
     refine s1 pg3656.z (okMv s3657) rfl fun a3658 p3659 s3660 => ?_
     refine cutP 3 (fun a' => Pg Try.f3.ntmps [85, 86, 87] a3658 a' ∧ a'.eval (.tmp 87) = .bool ((t4 && ((t3409.2.2.2.2).isN)) && (decide (0 ≤ t3409.2.2.1)))) ?_ ?_
     ·rcases bf (t4 && ((t3409.2.2.2.2).isN)) with hb3661 | hb3661
      ·have s3662 := bv s3660 hb3661
       refine s1k p3659.z rfl (yd p3659.z rfl rfl s3662) rfl fun a3663 p3664 s3665 => ?_
       have s3666 := p3664.o s3662 rfl
       refine s1k p3664.z rfl (yd p3664.z rfl rfl s3666) rfl fun a3667 p3668 s3669 => ?_
       have s3670 := p3668.o s3666 rfl
       refine s1 p3668.z (okPickF s3670 cst) rfl fun a3671 p3672 s3673 => ?_
       exact rN ⟨rfl, rfl, ((((Pg.refl p3659.z).st p3664 rfl).st p3668 rfl).st p3672 rfl), (andF hb3661 s3673)⟩
      ·have s3674 := bv s3660 hb3661
       have s3675 := p3659.o (pg3656.o (p3627.o (p3624.o s3617 rfl) rfl) rfl) rfl
       refine s1g p3659.z (okMv s3675) rfl (yd p3659.z rfl rfl s3674) fun a3676 p3677 s3678 => ?_
       have s3679 := p3677.o s3674 rfl
       refine s1g p3677.z (okGe s3678 cst) rfl (yd p3677.z rfl rfl s3679) fun a3680 p3681 s3682 => ?_
       have s3683 := p3681.o s3679 rfl
       refine s1 p3681.z (okPickT s3683 s3682) rfl fun a3684 p3685 s3686 => ?_
       exact rN ⟨rfl, rfl, ((((Pg.refl p3659.z).st p3677 rfl).st p3681 rfl).st p3685 rfl), (andT hb3661 s3686)⟩
     rintro a3687 ⟨pg3688, s3689⟩
     refine s1 pg3688.z (okMv s3689) rfl fun a3690 p3691 s3692 => ?_
     refine cutP 3 (fun a' => Pg Try.f3.ntmps [89, 90, 91] a3690 a' ∧ a'.eval (.tmp 91) = .bool (((t4 && ((t3409.2.2.2.2).isN)) && (decide (0 ≤ t3409.2.2.1))) && (decide (t3409.2.2.1 ≤ 3)))) ?_ ?_
     ·rcases bf ((t4 && ((t3409.2.2.2.2).isN)) && (decide (0 ≤ t3409.2.2.1))) with hb3693 | hb3693
      ·have s3694 := bv s3692 hb3693
       refine s1k p3691.z rfl (yd p3691.z rfl rfl s3694) rfl fun a3695 p3696 s3697 => ?_
       have s3698 := p3696.o s3694 rfl
       refine s1k p3696.z rfl (yd p3696.z rfl rfl s3698) rfl fun a3699 p3700 s3701 => ?_
       have s3702 := p3700.o s3698 rfl
       refine s1 p3700.z (okPickF s3702 cst) rfl fun a3703 p3704 s3705 => ?_
       exact rN ⟨rfl, rfl, ((((Pg.refl p3691.z).st p3696 rfl).st p3700 rfl).st p3704 rfl), (andF hb3693 s3705)⟩
      ·have s3706 := bv s3692 hb3693
       have s3707 := p3691.o (pg3688.o (p3659.o (pg3656.o (p3627.o (p3624.o s3617 rfl) rfl) rfl) rfl) rfl) rfl
       refine s1g p3691.z (okMv s3707) rfl (yd p3691.z rfl rfl s3706) fun a3708 p3709 s3710 => ?_
       have s3711 := p3709.o s3706 rfl
       refine s1g p3709.z (okLe s3710 cst) rfl (yd p3709.z rfl rfl s3711) fun a3712 p3713 s3714 => ?_
       have s3715 := p3713.o s3711 rfl
       refine s1 p3713.z (okPickT s3715 s3714) rfl fun a3716 p3717 s3718 => ?_
       exact rN ⟨rfl, rfl, ((((Pg.refl p3691.z).st p3709 rfl).st p3713 rfl).st p3717 rfl), (andT hb3693 s3718)⟩
     rintro a3719 ⟨pg3720, s3721⟩
     refine s1 pg3720.z (okAs s3721) rfl fun a3722 p3723 s3724 => ?_
     refine rN (thenN ?_)
     obtain rfl := Option.some.inj h
     exact wp_ret (thenR (ret1 p3723.z Try.results3 (rvT s3724) ⟨_, rfl, rfl, cx3425.g⟩))
    replace h := (ifN hb3621).symm.trans h
    refine wp_skip (thenN ?_)
    refine wp_seq ?_
    refine reg ?_
    have s3725 := pg3620.o (pg2782.o (pg2768.o s29 rfl) rfl) rfl
    refine s1 pg3620.z (okMv s3725) rfl fun a3726 p3727 s3728 => ?_
    refine s1 p3727.z (okMv s3728) rfl fun a3729 p3730 s3731 => ?_
    refine cutP 4 (fun a' => Pg Try.f3.ntmps [94, 95, 96, 97] a3729 a' ∧ a'.eval (.tmp 97) = .bool (t4 && (decide (t3409.2.2.2.2 = .code 1)))) ?_ ?_
    ·rcases bf t4 with hb3732 | hb3732
     ·have s3733 := bv s3731 hb3732
      refine s1k p3730.z rfl (yd p3730.z rfl rfl s3733) rfl fun a3734 p3735 s3736 => ?_
      have s3737 := p3735.o s3733 rfl
      refine s1k p3735.z rfl (yd p3735.z rfl rfl s3737) rfl fun a3738 p3739 s3740 => ?_
      have s3741 := p3739.o s3737 rfl
      refine s1k p3739.z rfl (yd p3739.z rfl rfl s3741) rfl fun a3742 p3743 s3744 => ?_
      have s3745 := p3743.o s3741 rfl
      refine s1 p3743.z (okPickF s3745 cst) rfl fun a3746 p3747 s3748 => ?_
      exact rN ⟨rfl, rfl, (((((Pg.refl p3730.z).st p3735 rfl).st p3739 rfl).st p3743 rfl).st p3747 rfl), (andF hb3732 s3748)⟩
     ·have s3749 := bv s3731 hb3732
      have s3750 := p3730.o (p3727.o s3619 rfl) rfl
      refine s1g p3730.z (okMv s3750) rfl (yd p3730.z rfl rfl s3749) fun a3751 p3752 s3753 => ?_
      have s3754 := p3752.o s3749 rfl
      refine s1g p3752.z (okMkI Try.underlying36 cst _) rfl (yd p3752.z rfl rfl s3754) fun a3755 p3756 s3757 => ?_
      have s3758 := p3756.o s3754 rfl
      have s3759 := p3756.o s3753 rfl
      refine s1g p3756.z (okEEqC ef33 s3759 q3428 s3757 _) rfl (yd p3756.z rfl rfl s3758) fun a3760 p3761 s3762 => ?_
      have s3763 := p3761.o s3758 rfl
      refine s1 p3761.z (okPickT s3763 s3762) rfl fun a3764 p3765 s3766 => ?_
      exact rN ⟨rfl, rfl, (((((Pg.refl p3730.z).st p3752 rfl).st p3756 rfl).st p3761 rfl).st p3765 rfl), (andT hb3732 s3766)⟩
    rintro a3767 ⟨pg3768, s3769⟩
    refine s1 pg3768.z (okMv s3769) rfl fun a3770 p3771 s3772 => ?_
    refine cutP 4 (fun a' => Pg Try.f3.ntmps [99, 100, 101, 102] a3770 a' ∧ a'.eval (.tmp 102) = .bool ((t4 && (decide (t3409.2.2.2.2 = .code 1))) && ((t3409.1.length : Int) == 0))) ?_ ?_
    ·rcases bf (t4 && (decide (t3409.2.2.2.2 = .code 1))) with hb3773 | hb3773
     ·have s3774 := bv s3772 hb3773
      refine s1k p3771.z rfl (yd p3771.z rfl rfl s3774) rfl fun a3775 p3776 s3777 => ?_
      have s3778 := p3776.o s3774 rfl
      refine s1k p3776.z rfl (yd p3776.z rfl rfl s3778) rfl fun a3779 p3780 s3781 => ?_
      have s3782 := p3780.o s3778 rfl
      refine s1k p3780.z rfl (yd p3780.z rfl rfl s3782) rfl fun a3783 p3784 s3785 => ?_
      have s3786 := p3784.o s3782 rfl
      refine s1 p3784.z (okPickF s3786 cst) rfl fun a3787 p3788 s3789 => ?_
      exact rN ⟨rfl, rfl, (((((Pg.refl p3771.z).st p3776 rfl).st p3780 rfl).st p3784 rfl).st p3788 rfl), (andF hb3773 s3789)⟩
     ·have s3790 := bv s3772 hb3773
      have s3791 := p3771.o (pg3768.o (p3730.o (p3727.o s3615 rfl) rfl) rfl) rfl
      refine s1g p3771.z (okMv s3791) rfl (yd p3771.z rfl rfl s3790) fun a3792 p3793 s3794 => ?_
      have s3795 := p3793.o s3790 rfl
      refine s1g p3793.z (okLenR Try.underlying30 s3794 q3426) rfl (yd p3793.z rfl rfl s3795) fun a3796 p3797 s3798 => ?_
      have s3799 := p3797.o s3795 rfl
      refine s1g p3797.z (okEq s3798 cst) rfl (yd p3797.z rfl rfl s3799) fun a3800 p3801 s3802 => ?_
      have s3803 := p3801.o s3799 rfl
      refine s1 p3801.z (okPickT s3803 s3802) rfl fun a3804 p3805 s3806 => ?_
      exact rN ⟨rfl, rfl, (((((Pg.refl p3771.z).st p3793 rfl).st p3797 rfl).st p3801 rfl).st p3805 rfl), (andT hb3773 s3806)⟩
    rintro a3807 ⟨pg3808, s3809⟩
    refine s1 pg3808.z (okMv s3809) rfl fun a3810 p3811 s3812 => ?_
    refine cutP 4 (fun a' => Pg Try.f3.ntmps [104, 105, 106, 107] a3810 a' ∧ a'.eval (.tmp 107) = .bool (((t4 && (decide (t3409.2.2.2.2 = .code 1))) && ((t3409.1.length : Int) == 0)) && ((t3409.2.1.length : Int) == 0))) ?_ ?_
    ·rcases bf ((t4 && (decide (t3409.2.2.2.2 = .code 1))) && ((t3409.1.length : Int) == 0)) with hb3813 | hb3813
     ·have s3814 := bv s3812 hb3813
      refine s1k p3811.z rfl (yd p3811.z rfl rfl s3814) rfl fun a3815 p3816 s3817 => ?_
      have s3818 := p3816.o s3814 rfl
      refine s1k p3816.z rfl (yd p3816.z rfl rfl s3818) rfl fun a3819 p3820 s3821 => ?_
      have s3822 := p3820.o s3818 rfl
      refine s1k p3820.z rfl (yd p3820.z rfl rfl s3822) rfl fun a3823 p3824 s3825 => ?_
      have s3826 := p3824.o s3822 rfl
      refine s1 p3824.z (okPickF s3826 cst) rfl fun a3827 p3828 s3829 => ?_
      exact rN ⟨rfl, rfl, (((((Pg.refl p3811.z).st p3816 rfl).st p3820 rfl).st p3824 rfl).st p3828 rfl), (andF hb3813 s3829)⟩
     ·have s3830 := bv s3812 hb3813
      have s3831 := p3811.o (pg3808.o (p3771.o (pg3768.o (p3730.o (p3727.o s3616 rfl) rfl) rfl) rfl) rfl) rfl
      refine s1g p3811.z (okMv s3831) rfl (yd p3811.z rfl rfl s3830) fun a3832 p3833 s3834 => ?_
      have s3835 := p3833.o s3830 rfl
      refine s1g p3833.z (okLenR Try.underlying31 s3834 q3427) rfl (yd p3833.z rfl rfl s3835) fun a3836 p3837 s3838 => ?_
      have s3839 := p3837.o s3835 rfl
      refine s1g p3837.z (okEq s3838 cst) rfl (yd p3837.z rfl rfl s3839) fun a3840 p3841 s3842 => ?_
      have s3843 := p3841.o s3839 rfl
      refine s1 p3841.z (okPickT s3843 s3842) rfl fun a3844 p3845 s3846 => ?_
      exact rN ⟨rfl, rfl, (((((Pg.refl p3811.z).st p3833 rfl).st p3837 rfl).st p3841 rfl).st p3845 rfl), (andT hb3813 s3846)⟩
    rintro a3847 ⟨pg3848, s3849⟩
    refine s1 pg3848.z (okMv s3849) rfl fun a3850 p3851 s3852 => ?_
    refine cutP 3 (fun a' => Pg Try.f3.ntmps [109, 110, 111] a3850 a' ∧ a'.eval (.tmp 111) = .bool ((((t4 && (decide (t3409.2.2.2.2 = .code 1))) && ((t3409.1.length : Int) == 0)) && ((t3409.2.1.length : Int) == 0)) && (t3409.2.2.1 == 0))) ?_ ?_
    ·rcases bf (((t4 && (decide (t3409.2.2.2.2 = .code 1))) && ((t3409.1.length : Int) == 0)) && ((t3409.2.1.length : Int) == 0)) with hb3853 | hb3853
     ·have s3854 := bv s3852 hb3853
      refine s1k p3851.z rfl (yd p3851.z rfl rfl s3854) rfl fun a3855 p3856 s3857 => ?_
      have s3858 := p3856.o s3854 rfl
      refine s1k p3856.z rfl (yd p3856.z rfl rfl s3858) rfl fun a3859 p3860 s3861 => ?_
      have s3862 := p3860.o s3858 rfl
      refine s1 p3860.z (okPickF s3862 cst) rfl fun a3863 p3864 s3865 => ?_
      exact rN ⟨rfl, rfl, ((((Pg.refl p3851.z).st p3856 rfl).st p3860 rfl).st p3864 rfl), (andF hb3853 s3865)⟩
     ·have s3866 := bv s3852 hb3853
      have s3867 := p3851.o (pg3848.o (p3811.o (pg3808.o (p3771.o (pg3768.o (p3730.o (p3727.o s3617 rfl) rfl) rfl) rfl) rfl) rfl) rfl) rfl
      refine s1g p3851.z (okMv s3867) rfl (yd p3851.z rfl rfl s3866) fun a3868 p3869 s3870 => ?_
      have s3871 := p3869.o s3866 rfl
      refine s1g p3869.z (okEq s3870 cst) rfl (yd p3869.z rfl rfl s3871) fun a3872 p3873 s3874 => ?_
      have s3875 := p3873.o s3871 rfl
      refine s1 p3873.z (okPickT s3875 s3874) rfl fun a3876 p3877 s3878 => ?_
      exact rN ⟨rfl, rfl, ((((Pg.refl p3851.z).st p3869 rfl).st p3873 rfl).st p3877 rfl), (andT hb3853 s3878)⟩
    rintro a3879 ⟨pg3880, s3881⟩
    refine s1 pg3880.z (okMv s3881) rfl fun a3882 p3883 s3884 => ?_
    refine cutP 3 (fun a' => Pg Try.f3.ntmps [113, 114, 115] a3882 a' ∧ a'.eval (.tmp 115) = .bool (((((t4 && (decide (t3409.2.2.2.2 = .code 1))) && ((t3409.1.length : Int) == 0)) && ((t3409.2.1.length : Int) == 0)) && (t3409.2.2.1 == 0)) && (t3409.2.2.2.1 == 0))) ?_ ?_
    ·rcases bf ((((t4 && (decide (t3409.2.2.2.2 = .code 1))) && ((t3409.1.length : Int) == 0)) && ((t3409.2.1.length : Int) == 0)) && (t3409.2.2.1 == 0)) with hb3885 | hb3885
     ·have s3886 := bv s3884 hb3885
      refine s1k p3883.z rfl (yd p3883.z rfl rfl s3886) rfl fun a3887 p3888 s3889 => ?_
      have s3890 := p3888.o s3886 rfl
      refine s1k p3888.z rfl (yd p3888.z rfl rfl s3890) rfl fun a3891 p3892 s3893 => ?_
      have s3894 := p3892.o s3890 rfl
      refine s1 p3892.z (okPickF s3894 cst) rfl fun a3895 p3896 s3897 => ?_
      exact rN ⟨rfl, rfl, ((((Pg.refl p3883.z).st p3888 rfl).st p3892 rfl).st p3896 rfl), (andF hb3885 s3897)⟩
     ·have s3898 := bv s3884 hb3885
      have s3899 := p3883.o (pg3880.o (p3851.o (pg3848.o (p3811.o (pg3808.o (p3771.o (pg3768.o (p3730.o (p3727.o s3618 rfl) rfl) rfl) rfl) rfl) rfl) rfl) rfl) rfl) rfl
      refine s1g p3883.z (okMv s3899) rfl (yd p3883.z rfl rfl s3898) fun a3900 p3901 s3902 => ?_
      have s3903 := p3901.o s3898 rfl
      refine s1g p3901.z (okEq s3902 cst) rfl (yd p3901.z rfl rfl s3903) fun a3904 p3905 s3906 => ?_
      have s3907 := p3905.o s3903 rfl
      refine s1 p3905.z (okPickT s3907 s3906) rfl fun a3908 p3909 s3910 => ?_
      exact rN ⟨rfl, rfl, ((((Pg.refl p3883.z).st p3901 rfl).st p3905 rfl).st p3909 rfl), (andT hb3885 s3910)⟩
    rintro a3911 ⟨pg3912, s3913⟩
    refine s1 pg3912.z (okMv s3913) rfl fun a3914 p3915 s3916 => ?_
    obtain ⟨b3917, hb3918, h⟩ := Option.bind_eq_some_iff.1 h
    refine cutL 4 (fun a' w' => Pg Try.f3.ntmps [117, 118, 119, 120] a3914 a' ∧ a'.eval (.tmp 120) = .bool b3917 ∧ G [] w3412 w') ?_ ?_
    ·rcases bf (((((t4 && (decide (t3409.2.2.2.2 = .code 1))) && ((t3409.1.length : Int) == 0)) && ((t3409.2.1.length : Int) == 0)) && (t3409.2.2.1 == 0)) && (t3409.2.2.2.1 == 0)) with hb3919 | hb3919
     ·have s3920 := bv s3916 hb3919
      replace hb3918 := (ifN hb3919).symm.trans hb3918
      clear h; have h := hb3918; clear hb3918
      refine s1k p3915.z rfl (yd p3915.z rfl rfl s3920) rfl fun a3921 p3922 s3923 => ?_
      have s3924 := p3922.o s3920 rfl
      refine s1k p3922.z rfl (yd p3922.z rfl rfl s3924) rfl fun a3925 p3926 s3927 => ?_
      have s3928 := p3926.o s3924 rfl
      refine s1k p3926.z rfl (yd p3926.z rfl rfl s3928) rfl fun a3929 p3930 s3931 => ?_
      have s3932 := p3930.o s3928 rfl
      refine s1 p3930.z (okPickF s3932 cst) rfl fun a3933 p3934 s3935 => ?_
      obtain rfl := Option.some.inj h
      exact rN ⟨rfl, (((((Pg.refl p3915.z).st p3922 rfl).st p3926 rfl).st p3930 rfl).st p3934 rfl), s3935, (G.refl _ _)⟩
     ·have s3936 := bv s3916 hb3919
      replace hb3918 := (ifP hb3919).symm.trans hb3918
      clear h; have h := hb3918; clear hb3918
      have s3937 := p3915.o (pg3912.o (p3883.o (pg3880.o (p3851.o (pg3848.o (p3811.o (pg3808.o (p3771.o (pg3768.o (p3730.o (p3727.o (pg3620.o (pg2782.o s2762 rfl) rfl) rfl) rfl) rfl) rfl) rfl) rfl) rfl) rfl) rfl) rfl) rfl) rfl
      refine s1g p3915.z (okMv s3937) rfl (yd p3915.z rfl rfl s3936) fun a3938 p3939 s3940 => ?_
      have s3941 := p3939.o s3936 rfl
      have m3942 := m3408.g0 g3424
      have q3943 := (((q2706.t0 (tAp g2713 (fun _ h => nilO h) f2715) g2713).t0 g2751.t0 g2751).t0 ((Tr.refl (ownB v2709 ++ (oby70 :: (ownB hpy70_0 ++ (oby147 :: (ownB hpy147_0 ++ L))))) w2747).sub (fun i h => (List.mem_append_right _ h))) (G.refl [] w2747)).t0 g3424.t0 g3424
      have m3944 := m3406.g0 g3424
      obtain ⟨t3945, ht3946, h⟩ := Option.bind_eq_some_iff.1 h
      refine lG rfl (yd p3939.z rfl rfl s3941) (oCall p3939.z Try.call11 (ag1 s3940) (c11 (oby147 :: (ownB hpy147_0 ++ L)) w3412 y70 oby70 hpy70_0 cx3425.lt (sepC (show ∀ x ∈ [oby70], x ∉ (ownB hpy70_0 ++ (oby147 :: (ownB hpy147_0 ++ L))) from (in1 (na (D2650.bo (i := 0) (j := 1) rfl rfl rfl) (nc (D2650.bb (i := 0) (j := 2) rfl rfl rfl) (na (D2650.bo (i := 0) (j := 3) rfl rfl rfl) (fun h => Nat.lt_irrefl _ (Nat.lt_of_lt_of_le (hL _ h) (Nat.le_trans cx50.g.sz (f67 _ (List.mem_append_left _ (.head _))))))))))) (sepC (show ∀ x ∈ ownB hpy70_0, x ∉ (oby147 :: (ownB hpy147_0 ++ L)) from (fun x hx => (nc (nbo (D2650.ob (i := 1) (j := 2) rfl rfl rfl) hx) (na ((D2650.dj (i := 1) (j := 3) rfl rfl rfl) x hx) ((fun x hx hl => D2650.dl (i := 1) rfl x hx hl) x hx))))) sepN)) m3942 q3943 _ ht3946) rfl fun v3950 a3947 w3948 hp3951 p3949 sp3949 => ?_)
      obtain ⟨rfl, g3954⟩ := hp3951
      have cx3955 := cx3425.ca g3954
      have s3956 := p3949.o s3941 rfl
      refine s1g p3949.z (okEq sp3949 cst) rfl (yd p3949.z rfl rfl s3956) fun a3957 p3958 s3959 => ?_
      have s3960 := p3958.o s3956 rfl
      refine s1 p3958.z (okPickT s3960 s3959) rfl fun a3961 p3962 s3963 => ?_
      obtain rfl := Option.some.inj h
      exact rN ⟨rfl, (((((Pg.refl p3915.z).st p3939 rfl).st p3949 rfl).st p3958 rfl).st p3962 rfl), s3963, g3954⟩
    rintro a3964 w3967 ⟨pg3965, s3966, g3968⟩
    have cx3969 := cx3425.ca g3968
    refine s1 pg3965.z (okAs s3966) rfl fun a3970 p3971 s3972 => ?_
    refine rN (thenN ?_)
    obtain rfl := Option.some.inj h
    exact wp_ret (ret1 p3971.z Try.results3 (rvT s3972) ⟨_, rfl, rfl, cx3969.g⟩)
   replace h := (ifN hb2769).symm.trans h
   refine wp_skip (thenN ?_)
   refine wp_seq ?_
   refine wp_seq ?_
   refine reg ?_
   refine s1 pg2768.z (okMv s2767) rfl fun a3973 p3974 s3975 => ?_
   refine s1 p3974.z (okEq s3975 cst) rfl fun a3976 p3977 s3978 => ?_
   refine rN (thenN ?_)
   refine cnd s3978 (fun hb3979 => ?_) (fun hb3979 => ?_)
   ·replace h := (ifP hb3979).symm.trans h
    refine reg ?_
    refine s1 p3977.z (okAs cst) rfl fun a3980 p3981 s3982 => ?_
    refine rN (thenN ?_)
    refine wp_seq ?_
    refine reg ?_
    have s3983 := p3981.o (p3977.o (p3974.o (pg2768.o s27 rfl) rfl) rfl) rfl
    refine s1 p3981.z (okMv s3983) rfl fun a3984 p3985 s3986 => ?_
    have s3987 := p3985.o (p3981.o (p3977.o (p3974.o s2765 rfl) rfl) rfl) rfl
    refine s1 p3985.z (okMv s3987) rfl fun a3988 p3989 s3990 => ?_
    have s3991 := p3989.o (p3985.o s3982 rfl) rfl
    refine s1 p3989.z (okMv s3991) rfl fun a3992 p3993 s3994 => ?_
    have s3995 := p3993.o (p3989.o (p3985.o (p3981.o (p3977.o (p3974.o (pg2768.o (pg30.o s0_1 rfl) rfl) rfl) rfl) rfl) rfl) rfl) rfl
    refine s1 p3993.z (okMv s3995) rfl fun a3996 p3997 s3998 => ?_
    have s3999 := p3997.o (p3993.o (p3989.o (p3985.o (p3981.o (p3977.o (p3974.o s2764 rfl) rfl) rfl) rfl) rfl) rfl) rfl
    refine s1 p3997.z (okMv s3999) rfl fun a4000 p4001 s4002 => ?_
    have s4003 := p4001.o (p3997.o (p3993.o (p3989.o s3986 rfl) rfl) rfl) rfl
    have s4004 := p4001.o (p3997.o (p3993.o s3990 rfl) rfl) rfl
    have s4005 := p4001.o (p3997.o s3994 rfl) rfl
    have s4006 := p4001.o s3998 rfl
    have q4007 := q2712.t0 g2751.t0 g2751
    have q4008 : RdS KTFrame (oby70 :: (ownB hpy70_0 ++ (oby147 :: (ownB hpy147_0 ++ L)))) w2747 v2709 z2702 := q4007.rd (fun i h => (List.mem_append_right _ h)) (fun b hb => (not_cons (fun e => n2718 (e ▸ hb)) (not_app ((djs n2720) _ hb) (not_cons (fun e => n2719 (e ▸ hb)) (not_app ((djs n2721) _ hb) (nb2716 _ hb))))))
    have cx4009 := cx2752.sub (fun i h => (List.mem_append_right _ h))
    have q4010 := q20.mono (((((((tAp g43 (fun _ h => nilO h) f45).trans ((Tr.refl (ownB v39 ++ L) w40).sub (fun i h => (List.mem_append_right _ h)))).trans t2654).trans g2694.t0).trans (tAp g2713 (fun _ h => nilO h) f2715)).trans g2751.t0).trans ((Tr.refl (ownB v2709 ++ (oby70 :: (ownB hpy70_0 ++ (oby147 :: (ownB hpy147_0 ++ L))))) w2747).sub (fun i h => (List.mem_append_right _ h))))
    have m4011 := ((m2704.g0 g2713).g0 g2751).g0 (G.refl [] w2747)
    have q4012 := ((q2706.t0 (tAp g2713 (fun _ h => nilO h) f2715) g2713).t0 g2751.t0 g2751).t0 ((Tr.refl (ownB v2709 ++ (oby70 :: (ownB hpy70_0 ++ (oby147 :: (ownB hpy147_0 ++ L))))) w2747).sub (fun i h => (List.mem_append_right _ h))) (G.refl [] w2747)
    have m4013 := ((m2705.g0 g2713).g0 g2751).g0 (G.refl [] w2747)
    obtain ⟨t4014, ht4015, h⟩ := Option.bind_eq_some_iff.1 h
    refine lS (oCall p4001.z Try.call10 (ag5 s4003 s4004 s4005 s4006 s4002) (c10_n2 (oby147 :: (ownB hpy147_0 ++ L)) w2747 x0 h0 y70 oby70 hpy70_0 x1 z2702 v2709 cx4009.lt (sepC (show ∀ x ∈ [oby70], x ∉ (ownB hpy70_0 ++ (oby147 :: (ownB hpy147_0 ++ L))) from (in1 (na (D2650.bo (i := 0) (j := 1) rfl rfl rfl) (nc (D2650.bb (i := 0) (j := 2) rfl rfl rfl) (na (D2650.bo (i := 0) (j := 3) rfl rfl rfl) (fun h => Nat.lt_irrefl _ (Nat.lt_of_lt_of_le (hL _ h) (Nat.le_trans cx50.g.sz (f67 _ (List.mem_append_left _ (.head _))))))))))) (sepC (show ∀ x ∈ ownB hpy70_0, x ∉ (oby147 :: (ownB hpy147_0 ++ L)) from (fun x hx => (nc (nbo (D2650.ob (i := 1) (j := 2) rfl rfl rfl) hx) (na ((D2650.dj (i := 1) (j := 3) rfl rfl rfl) x hx) ((fun x hx hl => D2650.dl (i := 1) rfl x hx hl) x hx))))) sepN)) q4010 m4011 q4012 q4008 _ ht4015) rfl fun v4019 a4016 w4017 hp4020 p4018 sp4018 => ?_)
    obtain ⟨h4021, h4022, h4023, rfl, q4024, q4025, q4026, g4029⟩ := hp4020
    have cx4030 := cx4009.ca g4029
    refine s1 p4018.z (okMv sp4018) rfl fun a4031 p4032 s4033 => ?_
    refine s1 p4032.z (okExt (vs := [_, _, _, _, _]) s4033 rfl) rfl fun a4034 p4035 s4036 => ?_
    have s4037 := p4035.o s4033 rfl
    refine s1 p4035.z (okExt (vs := [_, _, _, _, _]) s4037 rfl) rfl fun a4038 p4039 s4040 => ?_
    have s4041 := p4039.o s4037 rfl
    refine s1 p4039.z (okExt (vs := [_, _, _, _, _]) s4041 rfl) rfl fun a4042 p4043 s4044 => ?_
    have s4045 := p4043.o s4041 rfl
    refine s1 p4043.z (okExt (vs := [_, _, _, _, _]) s4045 rfl) rfl fun a4046 p4047 s4048 => ?_
    have s4049 := p4047.o s4045 rfl
    refine s1 p4047.z (okExt (vs := [_, _, _, _, _]) s4049 rfl) rfl fun a4050 p4051 s4052 => ?_
    have s4053 := p4051.o (p4047.o (p4043.o (p4039.o s4036 rfl) rfl) rfl) rfl
    refine s1 p4051.z (okAs s4053) rfl fun a4054 p4055 s4056 => ?_
    have s4057 := p4055.o (p4051.o (p4047.o (p4043.o s4040 rfl) rfl) rfl) rfl
    refine s1 p4055.z (okAs s4057) rfl fun a4058 p4059 s4060 => ?_
    have s4061 := p4059.o (p4055.o (p4051.o (p4047.o s4044 rfl) rfl) rfl) rfl
    refine s1 p4059.z (okAs s4061) rfl fun a4062 p4063 s4064 => ?_
    have s4065 := p4063.o (p4059.o (p4055.o (p4051.o s4048 rfl) rfl) rfl) rfl
    refine s1 p4063.z (okAs s4065) rfl fun a4066 p4067 s4068 => ?_
    have s4069 := p4067.o (p4063.o (p4059.o (p4055.o s4052 rfl) rfl) rfl) rfl
    refine s1 p4067.z (okAs s4069) rfl fun a4070 p4071 s4072 => ?_
    refine rN (thenN ?_)
    refine wp_seq ?_
    refine reg ?_
    have s4073 := p4071.o (p4067.o (p4063.o (p4059.o (p4055.o (p4051.o (p4047.o (p4043.o (p4039.o (p4035.o (p4032.o (p4018.o (p4001.o (p3997.o (p3993.o (p3989.o (p3985.o (p3981.o (p3977.o (p3974.o s2767 rfl) rfl) rfl) rfl) rfl) rfl) rfl) rfl) rfl) rfl) rfl) rfl) rfl) rfl) rfl) rfl) rfl) rfl) rfl) rfl
    refine s1 p4071.z (okMv s4073) rfl fun a4074 p4075 s4076 => ?_
    refine s1 p4075.z (okGt s4076 cst) rfl fun a4077 p4078 s4079 => ?_
    refine s1 p4078.z (okMv s4079) rfl fun a4080 p4081 s4082 => ?_
    refine cutP 3 (fun a' => Pg Try.f3.ntmps [62, 63, 64] a4080 a' ∧ a'.eval (.tmp 64) = .bool ((decide (0 < t2744)) || (decide (x1 < 0)))) ?_ ?_
    ·rcases bf (decide (0 < t2744)) with hb4083 | hb4083
     ·have s4084 := bv s4082 hb4083
      have s4085 := p4081.o (p4078.o (p4075.o (p4071.o (p4067.o (p4063.o (p4059.o (p4055.o (p4051.o (p4047.o (p4043.o (p4039.o (p4035.o (p4032.o (p4018.o (p4001.o (p3997.o s3995 rfl) rfl) rfl) rfl) rfl) rfl) rfl) rfl) rfl) rfl) rfl) rfl) rfl) rfl) rfl) rfl) rfl
      refine s1g p4081.z (okMv s4085) rfl (yd p4081.z rfl rfl s4084) fun a4086 p4087 s4088 => ?_
      have s4089 := p4087.o s4084 rfl
      refine s1g p4087.z (okLt s4088 cst) rfl (yd p4087.z rfl rfl s4089) fun a4090 p4091 s4092 => ?_
      have s4093 := p4091.o s4089 rfl
      refine s1 p4091.z (okPickF s4093 s4092) rfl fun a4094 p4095 s4096 => ?_
      exact rN ⟨rfl, rfl, ((((Pg.refl p4081.z).st p4087 rfl).st p4091 rfl).st p4095 rfl), (orF hb4083 s4096)⟩
     ·have s4097 := bv s4082 hb4083
      refine s1k p4081.z rfl (yd p4081.z rfl rfl s4097) rfl fun a4098 p4099 s4100 => ?_
      have s4101 := p4099.o s4097 rfl
      refine s1k p4099.z rfl (yd p4099.z rfl rfl s4101) rfl fun a4102 p4103 s4104 => ?_
      have s4105 := p4103.o s4101 rfl
      refine s1 p4103.z (okPickT s4105 cst) rfl fun a4106 p4107 s4108 => ?_
      exact rN ⟨rfl, rfl, ((((Pg.refl p4081.z).st p4099 rfl).st p4103 rfl).st p4107 rfl), (orT hb4083 s4108)⟩
    rintro a4109 ⟨pg4110, s4111⟩
    refine s1 pg4110.z (okMv s4111) rfl fun a4112 p4113 s4114 => ?_
    refine cutP 3 (fun a' => Pg Try.f3.ntmps [66, 67, 68] a4112 a' ∧ a'.eval (.tmp 68) = .bool (((decide (0 < t2744)) || (decide (x1 < 0))) || (decide (1 < x1)))) ?_ ?_
    ·rcases bf ((decide (0 < t2744)) || (decide (x1 < 0))) with hb4115 | hb4115
     ·have s4116 := bv s4114 hb4115
      have s4117 := p4113.o (pg4110.o (p4081.o (p4078.o (p4075.o (p4071.o (p4067.o (p4063.o (p4059.o (p4055.o (p4051.o (p4047.o (p4043.o (p4039.o (p4035.o (p4032.o (p4018.o (p4001.o (p3997.o s3995 rfl) rfl) rfl) rfl) rfl) rfl) rfl) rfl) rfl) rfl) rfl) rfl) rfl) rfl) rfl) rfl) rfl) rfl) rfl
      refine s1g p4113.z (okMv s4117) rfl (yd p4113.z rfl rfl s4116) fun a4118 p4119 s4120 => ?_
      have s4121 := p4119.o s4116 rfl
      refine s1g p4119.z (okGt s4120 cst) rfl (yd p4119.z rfl rfl s4121) fun a4122 p4123 s4124 => ?_
      have s4125 := p4123.o s4121 rfl
      refine s1 p4123.z (okPickF s4125 s4124) rfl fun a4126 p4127 s4128 => ?_
      exact rN ⟨rfl, rfl, ((((Pg.refl p4113.z).st p4119 rfl).st p4123 rfl).st p4127 rfl), (orF hb4115 s4128)⟩
     ·have s4129 := bv s4114 hb4115
      refine s1k p4113.z rfl (yd p4113.z rfl rfl s4129) rfl fun a4130 p4131 s4132 => ?_
      have s4133 := p4131.o s4129 rfl
      refine s1k p4131.z rfl (yd p4131.z rfl rfl s4133) rfl fun a4134 p4135 s4136 => ?_
      have s4137 := p4135.o s4133 rfl
      refine s1 p4135.z (okPickT s4137 cst) rfl fun a4138 p4139 s4140 => ?_
      exact rN ⟨rfl, rfl, ((((Pg.refl p4113.z).st p4131 rfl).st p4135 rfl).st p4139 rfl), (orT hb4115 s4140)⟩
    rintro a4141 ⟨pg4142, s4143⟩
    refine s1 pg4142.z (okMv s4143) rfl fun a4144 p4145 s4146 => ?_
    refine cutP 3 (fun a' => Pg Try.f3.ntmps [70, 71, 72] a4144 a' ∧ a'.eval (.tmp 72) = .bool ((((decide (0 < t2744)) || (decide (x1 < 0))) || (decide (1 < x1))) || (t2687 == 0))) ?_ ?_
    ·rcases bf (((decide (0 < t2744)) || (decide (x1 < 0))) || (decide (1 < x1))) with hb4147 | hb4147
     ·have s4148 := bv s4146 hb4147
      have s4149 := p4145.o (pg4142.o (p4113.o (pg4110.o (p4081.o (p4078.o (p4075.o (p4071.o (p4067.o (p4063.o (p4059.o (p4055.o (p4051.o (p4047.o (p4043.o (p4039.o (p4035.o (p4032.o (p4018.o (p4001.o (p3997.o (p3993.o (p3989.o (p3985.o (p3981.o (p3977.o (p3974.o s2763 rfl) rfl) rfl) rfl) rfl) rfl) rfl) rfl) rfl) rfl) rfl) rfl) rfl) rfl) rfl) rfl) rfl) rfl) rfl) rfl) rfl) rfl) rfl) rfl) rfl) rfl) rfl
      refine s1g p4145.z (okMv s4149) rfl (yd p4145.z rfl rfl s4148) fun a4150 p4151 s4152 => ?_
      have s4153 := p4151.o s4148 rfl
      refine s1g p4151.z (okEq s4152 cst) rfl (yd p4151.z rfl rfl s4153) fun a4154 p4155 s4156 => ?_
      have s4157 := p4155.o s4153 rfl
      refine s1 p4155.z (okPickF s4157 s4156) rfl fun a4158 p4159 s4160 => ?_
      exact rN ⟨rfl, rfl, ((((Pg.refl p4145.z).st p4151 rfl).st p4155 rfl).st p4159 rfl), (orF hb4147 s4160)⟩
     ·have s4161 := bv s4146 hb4147
      refine s1k p4145.z rfl (yd p4145.z rfl rfl s4161) rfl fun a4162 p4163 s4164 => ?_
      have s4165 := p4163.o s4161 rfl
      refine s1k p4163.z rfl (yd p4163.z rfl rfl s4165) rfl fun a4166 p4167 s4168 => ?_
      have s4169 := p4167.o s4165 rfl
      refine s1 p4167.z (okPickT s4169 cst) rfl fun a4170 p4171 s4172 => ?_
      exact rN ⟨rfl, rfl, ((((Pg.refl p4145.z).st p4163 rfl).st p4167 rfl).st p4171 rfl), (orT hb4147 s4172)⟩
    rintro a4173 ⟨pg4174, s4175⟩
    refine s1 pg4174.z (okMv s4175) rfl fun a4176 p4177 s4178 => ?_
    refine cutP 3 (fun a' => Pg Try.f3.ntmps [74, 75, 76] a4176 a' ∧ a'.eval (.tmp 76) = .bool (((((decide (0 < t2744)) || (decide (x1 < 0))) || (decide (1 < x1))) || (t2687 == 0)) || (decide (16 < t2687)))) ?_ ?_
    ·rcases bf ((((decide (0 < t2744)) || (decide (x1 < 0))) || (decide (1 < x1))) || (t2687 == 0)) with hb4179 | hb4179
     ·have s4180 := bv s4178 hb4179
      have s4181 := p4177.o (pg4174.o (p4145.o (pg4142.o (p4113.o (pg4110.o (p4081.o (p4078.o (p4075.o (p4071.o (p4067.o (p4063.o (p4059.o (p4055.o (p4051.o (p4047.o (p4043.o (p4039.o (p4035.o (p4032.o (p4018.o (p4001.o (p3997.o (p3993.o (p3989.o (p3985.o (p3981.o (p3977.o (p3974.o s2763 rfl) rfl) rfl) rfl) rfl) rfl) rfl) rfl) rfl) rfl) rfl) rfl) rfl) rfl) rfl) rfl) rfl) rfl) rfl) rfl) rfl) rfl) rfl) rfl) rfl) rfl) rfl) rfl) rfl
      refine s1g p4177.z (okMv s4181) rfl (yd p4177.z rfl rfl s4180) fun a4182 p4183 s4184 => ?_
      have s4185 := p4183.o s4180 rfl
      refine s1g p4183.z (okGt s4184 cst) rfl (yd p4183.z rfl rfl s4185) fun a4186 p4187 s4188 => ?_
      have s4189 := p4187.o s4185 rfl
      refine s1 p4187.z (okPickF s4189 s4188) rfl fun a4190 p4191 s4192 => ?_
      exact rN ⟨rfl, rfl, ((((Pg.refl p4177.z).st p4183 rfl).st p4187 rfl).st p4191 rfl), (orF hb4179 s4192)⟩
     ·have s4193 := bv s4178 hb4179
      refine s1k p4177.z rfl (yd p4177.z rfl rfl s4193) rfl fun a4194 p4195 s4196 => ?_
      have s4197 := p4195.o s4193 rfl
      refine s1k p4195.z rfl (yd p4195.z rfl rfl s4197) rfl fun a4198 p4199 s4200 => ?_
      have s4201 := p4199.o s4197 rfl
      refine s1 p4199.z (okPickT s4201 cst) rfl fun a4202 p4203 s4204 => ?_
      exact rN ⟨rfl, rfl, ((((Pg.refl p4177.z).st p4195 rfl).st p4199 rfl).st p4203 rfl), (orT hb4179 s4204)⟩
    rintro a4205 ⟨pg4206, s4207⟩
    refine s1 pg4206.z (okAs s4207) rfl fun a4208 p4209 s4210 => ?_
    refine rN (thenN ?_)
    refine wp_seq ?_
    refine wp_seq ?_
    refine reg ?_
    refine s1 p4209.z (okMv s4210) rfl fun a4211 p4212 s4213 => ?_
    refine s1 p4212.z (okNot s4213) rfl fun a4214 p4215 s4216 => ?_
    refine rN (thenN ?_)
    have s4217 := p4215.o (p4212.o (p4209.o (pg4206.o (p4177.o (pg4174.o (p4145.o (pg4142.o (p4113.o (pg4110.o (p4081.o (p4078.o (p4075.o (p4071.o (p4067.o (p4063.o (p4059.o s4056 rfl) rfl) rfl) rfl) rfl) rfl) rfl) rfl) rfl) rfl) rfl) rfl) rfl) rfl) rfl) rfl) rfl
    have s4218 := p4215.o (p4212.o (p4209.o (pg4206.o (p4177.o (pg4174.o (p4145.o (pg4142.o (p4113.o (pg4110.o (p4081.o (p4078.o (p4075.o (p4071.o (p4067.o (p4063.o s4060 rfl) rfl) rfl) rfl) rfl) rfl) rfl) rfl) rfl) rfl) rfl) rfl) rfl) rfl) rfl) rfl
    have s4219 := p4215.o (p4212.o (p4209.o (pg4206.o (p4177.o (pg4174.o (p4145.o (pg4142.o (p4113.o (pg4110.o (p4081.o (p4078.o (p4075.o (p4071.o (p4067.o s4064 rfl) rfl) rfl) rfl) rfl) rfl) rfl) rfl) rfl) rfl) rfl) rfl) rfl) rfl) rfl
    have s4220 := p4215.o (p4212.o (p4209.o (pg4206.o (p4177.o (pg4174.o (p4145.o (pg4142.o (p4113.o (pg4110.o (p4081.o (p4078.o (p4075.o (p4071.o s4068 rfl) rfl) rfl) rfl) rfl) rfl) rfl) rfl) rfl) rfl) rfl) rfl) rfl) rfl
    have s4221 := p4215.o (p4212.o (p4209.o (pg4206.o (p4177.o (pg4174.o (p4145.o (pg4142.o (p4113.o (pg4110.o (p4081.o (p4078.o (p4075.o s4072 rfl) rfl) rfl) rfl) rfl) rfl) rfl) rfl) rfl) rfl) rfl) rfl) rfl
    have pg4222 : Pg _ [15, 17, 18, 19, 20, 21, 22, 45, 46, 47, 48, 49, 50, 51, 52, 53, 54, 55, 56, 57, 58, 59, 60, 61, 62, 63, 64, 65, 66, 67, 68, 69, 70, 71, 72, 73, 74, 75, 76, 77, 78] _ _ := ((((((((((((((((((((((((((((((((((Pg.refl pg2768.z).st p3974 rfl).st p3977 rfl).st p3981 rfl).st p3985 rfl).st p3989 rfl).st p3993 rfl).st p3997 rfl).st p4001 rfl).st p4018 rfl).st p4032 rfl).st p4035 rfl).st p4039 rfl).st p4043 rfl).st p4047 rfl).st p4051 rfl).st p4055 rfl).st p4059 rfl).st p4063 rfl).st p4067 rfl).st p4071 rfl).st p4075 rfl).st p4078 rfl).st p4081 rfl).tr pg4110 rfl).st p4113 rfl).tr pg4142 rfl).st p4145 rfl).tr pg4174 rfl).st p4177 rfl).tr pg4206 rfl).st p4209 rfl).st p4212 rfl).st p4215 rfl)
    refine cnd s4216 (fun hb4223 => ?_) (fun hb4223 => ?_)
    ·replace h := (ifP hb4223).symm.trans h
     refine wp_seq ?_
     refine reg ?_
     have s4224 := pg4222.o (pg2768.o s29 rfl) rfl
     refine s1 pg4222.z (okMv s4224) rfl fun a4225 p4226 s4227 => ?_
     refine s1 p4226.z (okMv s4227) rfl fun a4228 p4229 s4230 => ?_
     refine cutP 3 (fun a' => Pg Try.f3.ntmps [81, 82, 83] a4228 a' ∧ a'.eval (.tmp 83) = .bool (t4 && ((t4014.2.2.2.2).isN))) ?_ ?_
     ·rcases bf t4 with hb4231 | hb4231
      ·have s4232 := bv s4230 hb4231
       refine s1k p4229.z rfl (yd p4229.z rfl rfl s4232) rfl fun a4233 p4234 s4235 => ?_
       have s4236 := p4234.o s4232 rfl
       refine s1k p4234.z rfl (yd p4234.z rfl rfl s4236) rfl fun a4237 p4238 s4239 => ?_
       have s4240 := p4238.o s4236 rfl
       refine s1 p4238.z (okPickF s4240 cst) rfl fun a4241 p4242 s4243 => ?_
       exact rN ⟨rfl, rfl, ((((Pg.refl p4229.z).st p4234 rfl).st p4238 rfl).st p4242 rfl), (andF hb4231 s4243)⟩
      ·have s4244 := bv s4230 hb4231
       have s4245 := p4229.o (p4226.o s4221 rfl) rfl
       refine s1g p4229.z (okMv s4245) rfl (yd p4229.z rfl rfl s4244) fun a4246 p4247 s4248 => ?_
       have s4249 := p4247.o s4244 rfl
       refine s1g p4247.z (okEEqN ef33 s4248 q4026 _) rfl (yd p4247.z rfl rfl s4249) fun a4250 p4251 s4252 => ?_
       have s4253 := p4251.o s4249 rfl
       refine s1 p4251.z (okPickT s4253 s4252) rfl fun a4254 p4255 s4256 => ?_
       exact rN ⟨rfl, rfl, ((((Pg.refl p4229.z).st p4247 rfl).st p4251 rfl).st p4255 rfl), (andT hb4231 s4256)⟩
     rintro a4257 ⟨pg4258, s4259⟩
     refine s1 pg4258.z (okMv s4259) rfl fun a4260 p4261 s4262 => ?_
     refine cutP 3 (fun a' => Pg Try.f3.ntmps [85, 86, 87] a4260 a' ∧ a'.eval (.tmp 87) = .bool ((t4 && ((t4014.2.2.2.2).isN)) && (decide (0 ≤ t4014.2.2.1)))) ?_ ?_
     ·rcases bf (t4 && ((t4014.2.2.2.2).isN)) with hb4263 | hb4263
      ·have s4264 := bv s4262 hb4263
       refine s1k p4261.z rfl (yd p4261.z rfl rfl s4264) rfl fun a4265 p4266 s4267 => ?_
       have s4268 := p4266.o s4264 rfl
       refine s1k p4266.z rfl (yd p4266.z rfl rfl s4268) rfl fun a4269 p4270 s4271 => ?_
       have s4272 := p4270.o s4268 rfl
       refine s1 p4270.z (okPickF s4272 cst) rfl fun a4273 p4274 s4275 => ?_
       exact rN ⟨rfl, rfl, ((((Pg.refl p4261.z).st p4266 rfl).st p4270 rfl).st p4274 rfl), (andF hb4263 s4275)⟩
      ·have s4276 := bv s4262 hb4263
       have s4277 := p4261.o (pg4258.o (p4229.o (p4226.o s4219 rfl) rfl) rfl) rfl
       refine s1g p4261.z (okMv s4277) rfl (yd p4261.z rfl rfl s4276) fun a4278 p4279 s4280 => ?_
       have s4281 := p4279.o s4276 rfl
       refine s1g p4279.z (okGe s4280 cst) rfl (yd p4279.z rfl rfl s4281) fun a4282 p4283 s4284 => ?_
       have s4285 := p4283.o s4281 rfl
       refine s1 p4283.z (okPickT s4285 s4284) rfl fun a4286 p4287 s4288 => ?_
       exact rN ⟨rfl, rfl, ((((Pg.refl p4261.z).st p4279 rfl).st p4283 rfl).st p4287 rfl), (andT hb4263 s4288)⟩
     rintro a4289 ⟨pg4290, s4291⟩
     refine s1 pg4290.z (okMv s4291) rfl fun a4292 p4293 s4294 => ?_
     refine cutP 3 (fun a' => Pg Try.f3.ntmps [89, 90, 91] a4292 a' ∧ a'.eval (.tmp 91) = .bool (((t4 && ((t4014.2.2.2.2).isN)) && (decide (0 ≤ t4014.2.2.1))) && (decide (t4014.2.2.1 ≤ 3)))) ?_ ?_
     ·rcases bf ((t4 && ((t4014.2.2.2.2).isN)) && (decide (0 ≤ t4014.2.2.1))) with hb4295 | hb4295
      ·have s4296 := bv s4294 hb4295
       refine s1k p4293.z rfl (yd p4293.z rfl rfl s4296) rfl fun a4297 p4298 s4299 => ?_
       have s4300 := p4298.o s4296 rfl
       refine s1k p4298.z rfl (yd p4298.z rfl rfl s4300) rfl fun a4301 p4302 s4303 => ?_
       have s4304 := p4302.o s4300 rfl
       refine s1 p4302.z (okPickF s4304 cst) rfl fun a4305 p4306 s4307 => ?_
       exact rN ⟨rfl, rfl, ((((Pg.refl p4293.z).st p4298 rfl).st p4302 rfl).st p4306 rfl), (andF hb4295 s4307)⟩
      ·have s4308 := bv s4294 hb4295
       have s4309 := p4293.o (pg4290.o (p4261.o (pg4258.o (p4229.o (p4226.o s4219 rfl) rfl) rfl) rfl) rfl) rfl
       refine s1g p4293.z (okMv s4309) rfl (yd p4293.z rfl rfl s4308) fun a4310 p4311 s4312 => ?_
       have s4313 := p4311.o s4308 rfl
       refine s1g p4311.z (okLe s4312 cst) rfl (yd p4311.z rfl rfl s4313) fun a4314 p4315 s4316 => ?_
       have s4317 := p4315.o s4313 rfl
       refine s1 p4315.z (okPickT s4317 s4316) rfl fun a4318 p4319 s4320 => ?_
       exact rN ⟨rfl, rfl, ((((Pg.refl p4293.z).st p4311 rfl).st p4315 rfl).st p4319 rfl), (andT hb4295 s4320)⟩
     rintro a4321 ⟨pg4322, s4323⟩
     refine s1 pg4322.z (okAs s4323) rfl fun a4324 p4325 s4326 => ?_
     refine rN (thenN ?_)
     obtain rfl := Option.some.inj h
     exact wp_ret (thenR (ret1 p4325.z Try.results3 (rvT s4326) ⟨_, rfl, rfl, cx4030.g⟩))
    replace h := (ifN hb4223).symm.trans h
    refine wp_skip (thenN ?_)
    refine wp_seq ?_
    refine reg ?_
    have s4327 := pg4222.o (pg2768.o s29 rfl) rfl
    refine s1 pg4222.z (okMv s4327) rfl fun a4328 p4329 s4330 => ?_
    refine s1 p4329.z (okMv s4330) rfl fun a4331 p4332 s4333 => ?_
    refine cutP 4 (fun a' => Pg Try.f3.ntmps [94, 95, 96, 97] a4331 a' ∧ a'.eval (.tmp 97) = .bool (t4 && (decide (t4014.2.2.2.2 = .code 1)))) ?_ ?_
    ·rcases bf t4 with hb4334 | hb4334
     ·have s4335 := bv s4333 hb4334
      refine s1k p4332.z rfl (yd p4332.z rfl rfl s4335) rfl fun a4336 p4337 s4338 => ?_
      have s4339 := p4337.o s4335 rfl
      refine s1k p4337.z rfl (yd p4337.z rfl rfl s4339) rfl fun a4340 p4341 s4342 => ?_
      have s4343 := p4341.o s4339 rfl
      refine s1k p4341.z rfl (yd p4341.z rfl rfl s4343) rfl fun a4344 p4345 s4346 => ?_
      have s4347 := p4345.o s4343 rfl
      refine s1 p4345.z (okPickF s4347 cst) rfl fun a4348 p4349 s4350 => ?_
      exact rN ⟨rfl, rfl, (((((Pg.refl p4332.z).st p4337 rfl).st p4341 rfl).st p4345 rfl).st p4349 rfl), (andF hb4334 s4350)⟩
     ·have s4351 := bv s4333 hb4334
      have s4352 := p4332.o (p4329.o s4221 rfl) rfl
      refine s1g p4332.z (okMv s4352) rfl (yd p4332.z rfl rfl s4351) fun a4353 p4354 s4355 => ?_
      have s4356 := p4354.o s4351 rfl
      refine s1g p4354.z (okMkI Try.underlying36 cst _) rfl (yd p4354.z rfl rfl s4356) fun a4357 p4358 s4359 => ?_
      have s4360 := p4358.o s4356 rfl
      have s4361 := p4358.o s4355 rfl
      refine s1g p4358.z (okEEqC ef33 s4361 q4026 s4359 _) rfl (yd p4358.z rfl rfl s4360) fun a4362 p4363 s4364 => ?_
      have s4365 := p4363.o s4360 rfl
      refine s1 p4363.z (okPickT s4365 s4364) rfl fun a4366 p4367 s4368 => ?_
      exact rN ⟨rfl, rfl, (((((Pg.refl p4332.z).st p4354 rfl).st p4358 rfl).st p4363 rfl).st p4367 rfl), (andT hb4334 s4368)⟩
    rintro a4369 ⟨pg4370, s4371⟩
    refine s1 pg4370.z (okMv s4371) rfl fun a4372 p4373 s4374 => ?_
    refine cutP 4 (fun a' => Pg Try.f3.ntmps [99, 100, 101, 102] a4372 a' ∧ a'.eval (.tmp 102) = .bool ((t4 && (decide (t4014.2.2.2.2 = .code 1))) && ((t4014.1.length : Int) == 0))) ?_ ?_
    ·rcases bf (t4 && (decide (t4014.2.2.2.2 = .code 1))) with hb4375 | hb4375
     ·have s4376 := bv s4374 hb4375
      refine s1k p4373.z rfl (yd p4373.z rfl rfl s4376) rfl fun a4377 p4378 s4379 => ?_
      have s4380 := p4378.o s4376 rfl
      refine s1k p4378.z rfl (yd p4378.z rfl rfl s4380) rfl fun a4381 p4382 s4383 => ?_
      have s4384 := p4382.o s4380 rfl
      refine s1k p4382.z rfl (yd p4382.z rfl rfl s4384) rfl fun a4385 p4386 s4387 => ?_
      have s4388 := p4386.o s4384 rfl
      refine s1 p4386.z (okPickF s4388 cst) rfl fun a4389 p4390 s4391 => ?_
      exact rN ⟨rfl, rfl, (((((Pg.refl p4373.z).st p4378 rfl).st p4382 rfl).st p4386 rfl).st p4390 rfl), (andF hb4375 s4391)⟩
     ·have s4392 := bv s4374 hb4375
      have s4393 := p4373.o (pg4370.o (p4332.o (p4329.o s4217 rfl) rfl) rfl) rfl
      refine s1g p4373.z (okMv s4393) rfl (yd p4373.z rfl rfl s4392) fun a4394 p4395 s4396 => ?_
      have s4397 := p4395.o s4392 rfl
      refine s1g p4395.z (okLenR Try.underlying30 s4396 q4024) rfl (yd p4395.z rfl rfl s4397) fun a4398 p4399 s4400 => ?_
      have s4401 := p4399.o s4397 rfl
      refine s1g p4399.z (okEq s4400 cst) rfl (yd p4399.z rfl rfl s4401) fun a4402 p4403 s4404 => ?_
      have s4405 := p4403.o s4401 rfl
      refine s1 p4403.z (okPickT s4405 s4404) rfl fun a4406 p4407 s4408 => ?_
      exact rN ⟨rfl, rfl, (((((Pg.refl p4373.z).st p4395 rfl).st p4399 rfl).st p4403 rfl).st p4407 rfl), (andT hb4375 s4408)⟩
    rintro a4409 ⟨pg4410, s4411⟩
    refine s1 pg4410.z (okMv s4411) rfl fun a4412 p4413 s4414 => ?_
    refine cutP 4 (fun a' => Pg Try.f3.ntmps [104, 105, 106, 107] a4412 a' ∧ a'.eval (.tmp 107) = .bool (((t4 && (decide (t4014.2.2.2.2 = .code 1))) && ((t4014.1.length : Int) == 0)) && ((t4014.2.1.length : Int) == 0))) ?_ ?_
    ·rcases bf ((t4 && (decide (t4014.2.2.2.2 = .code 1))) && ((t4014.1.length : Int) == 0)) with hb4415 | hb4415
     ·have s4416 := bv s4414 hb4415
      refine s1k p4413.z rfl (yd p4413.z rfl rfl s4416) rfl fun a4417 p4418 s4419 => ?_
      have s4420 := p4418.o s4416 rfl
      refine s1k p4418.z rfl (yd p4418.z rfl rfl s4420) rfl fun a4421 p4422 s4423 => ?_
      have s4424 := p4422.o s4420 rfl
      refine s1k p4422.z rfl (yd p4422.z rfl rfl s4424) rfl fun a4425 p4426 s4427 => ?_
      have s4428 := p4426.o s4424 rfl
      refine s1 p4426.z (okPickF s4428 cst) rfl fun a4429 p4430 s4431 => ?_
      exact rN ⟨rfl, rfl, (((((Pg.refl p4413.z).st p4418 rfl).st p4422 rfl).st p4426 rfl).st p4430 rfl), (andF hb4415 s4431)⟩
     ·have s4432 := bv s4414 hb4415
      have s4433 := p4413.o (pg4410.o (p4373.o (pg4370.o (p4332.o (p4329.o s4218 rfl) rfl) rfl) rfl) rfl) rfl
      refine s1g p4413.z (okMv s4433) rfl (yd p4413.z rfl rfl s4432) fun a4434 p4435 s4436 => ?_
      have s4437 := p4435.o s4432 rfl
      refine s1g p4435.z (okLenR Try.underlying31 s4436 q4025) rfl (yd p4435.z rfl rfl s4437) fun a4438 p4439 s4440 => ?_
      have s4441 := p4439.o s4437 rfl
      refine s1g p4439.z (okEq s4440 cst) rfl (yd p4439.z rfl rfl s4441) fun a4442 p4443 s4444 => ?_
      have s4445 := p4443.o s4441 rfl
      refine s1 p4443.z (okPickT s4445 s4444) rfl fun a4446 p4447 s4448 => ?_
      exact rN ⟨rfl, rfl, (((((Pg.refl p4413.z).st p4435 rfl).st p4439 rfl).st p4443 rfl).st p4447 rfl), (andT hb4415 s4448)⟩
    rintro a4449 ⟨pg4450, s4451⟩
    refine s1 pg4450.z (okMv s4451) rfl fun a4452 p4453 s4454 => ?_
    refine cutP 3 (fun a' => Pg Try.f3.ntmps [109, 110, 111] a4452 a' ∧ a'.eval (.tmp 111) = .bool ((((t4 && (decide (t4014.2.2.2.2 = .code 1))) && ((t4014.1.length : Int) == 0)) && ((t4014.2.1.length : Int) == 0)) && (t4014.2.2.1 == 0))) ?_ ?_
    ·rcases bf (((t4 && (decide (t4014.2.2.2.2 = .code 1))) && ((t4014.1.length : Int) == 0)) && ((t4014.2.1.length : Int) == 0)) with hb4455 | hb4455
     ·have s4456 := bv s4454 hb4455
      refine s1k p4453.z rfl (yd p4453.z rfl rfl s4456) rfl fun a4457 p4458 s4459 => ?_
      have s4460 := p4458.o s4456 rfl
      refine s1k p4458.z rfl (yd p4458.z rfl rfl s4460) rfl fun a4461 p4462 s4463 => ?_
      have s4464 := p4462.o s4460 rfl
      refine s1 p4462.z (okPickF s4464 cst) rfl fun a4465 p4466 s4467 => ?_
      exact rN ⟨rfl, rfl, ((((Pg.refl p4453.z).st p4458 rfl).st p4462 rfl).st p4466 rfl), (andF hb4455 s4467)⟩
     ·have s4468 := bv s4454 hb4455
      have s4469 := p4453.o (pg4450.o (p4413.o (pg4410.o (p4373.o (pg4370.o (p4332.o (p4329.o s4219 rfl) rfl) rfl) rfl) rfl) rfl) rfl) rfl
      refine s1g p4453.z (okMv s4469) rfl (yd p4453.z rfl rfl s4468) fun a4470 p4471 s4472 => ?_
      have s4473 := p4471.o s4468 rfl
      refine s1g p4471.z (okEq s4472 cst) rfl (yd p4471.z rfl rfl s4473) fun a4474 p4475 s4476 => ?_
      have s4477 := p4475.o s4473 rfl
      refine s1 p4475.z (okPickT s4477 s4476) rfl fun a4478 p4479 s4480 => ?_
      exact rN ⟨rfl, rfl, ((((Pg.refl p4453.z).st p4471 rfl).st p4475 rfl).st p4479 rfl), (andT hb4455 s4480)⟩
    rintro a4481 ⟨pg4482, s4483⟩
    refine s1 pg4482.z (okMv s4483) rfl fun a4484 p4485 s4486 => ?_
    refine cutP 3 (fun a' => Pg Try.f3.ntmps [113, 114, 115] a4484 a' ∧ a'.eval (.tmp 115) = .bool (((((t4 && (decide (t4014.2.2.2.2 = .code 1))) && ((t4014.1.length : Int) == 0)) && ((t4014.2.1.length : Int) == 0)) && (t4014.2.2.1 == 0)) && (t4014.2.2.2.1 == 0))) ?_ ?_
    ·rcases bf ((((t4 && (decide (t4014.2.2.2.2 = .code 1))) && ((t4014.1.length : Int) == 0)) && ((t4014.2.1.length : Int) == 0)) && (t4014.2.2.1 == 0)) with hb4487 | hb4487
     ·have s4488 := bv s4486 hb4487
      refine s1k p4485.z rfl (yd p4485.z rfl rfl s4488) rfl fun a4489 p4490 s4491 => ?_
      have s4492 := p4490.o s4488 rfl
      refine s1k p4490.z rfl (yd p4490.z rfl rfl s4492) rfl fun a4493 p4494 s4495 => ?_
      have s4496 := p4494.o s4492 rfl
      refine s1 p4494.z (okPickF s4496 cst) rfl fun a4497 p4498 s4499 => ?_
      exact rN ⟨rfl, rfl, ((((Pg.refl p4485.z).st p4490 rfl).st p4494 rfl).st p4498 rfl), (andF hb4487 s4499)⟩
     ·have s4500 := bv s4486 hb4487
      have s4501 := p4485.o (pg4482.o (p4453.o (pg4450.o (p4413.o (pg4410.o (p4373.o (pg4370.o (p4332.o (p4329.o s4220 rfl) rfl) rfl) rfl) rfl) rfl) rfl) rfl) rfl) rfl
      refine s1g p4485.z (okMv s4501) rfl (yd p4485.z rfl rfl s4500) fun a4502 p4503 s4504 => ?_
      have s4505 := p4503.o s4500 rfl
      refine s1g p4503.z (okEq s4504 cst) rfl (yd p4503.z rfl rfl s4505) fun a4506 p4507 s4508 => ?_
      have s4509 := p4507.o s4505 rfl
      refine s1 p4507.z (okPickT s4509 s4508) rfl fun a4510 p4511 s4512 => ?_
      exact rN ⟨rfl, rfl, ((((Pg.refl p4485.z).st p4503 rfl).st p4507 rfl).st p4511 rfl), (andT hb4487 s4512)⟩
    rintro a4513 ⟨pg4514, s4515⟩
    refine s1 pg4514.z (okMv s4515) rfl fun a4516 p4517 s4518 => ?_
    obtain ⟨b4519, hb4520, h⟩ := Option.bind_eq_some_iff.1 h
    refine cutL 4 (fun a' w' => Pg Try.f3.ntmps [117, 118, 119, 120] a4516 a' ∧ a'.eval (.tmp 120) = .bool b4519 ∧ G [] w4017 w') ?_ ?_
    ·rcases bf (((((t4 && (decide (t4014.2.2.2.2 = .code 1))) && ((t4014.1.length : Int) == 0)) && ((t4014.2.1.length : Int) == 0)) && (t4014.2.2.1 == 0)) && (t4014.2.2.2.1 == 0)) with hb4521 | hb4521
     ·have s4522 := bv s4518 hb4521
      replace hb4520 := (ifN hb4521).symm.trans hb4520
      clear h; have h := hb4520; clear hb4520
      refine s1k p4517.z rfl (yd p4517.z rfl rfl s4522) rfl fun a4523 p4524 s4525 => ?_
      have s4526 := p4524.o s4522 rfl
      refine s1k p4524.z rfl (yd p4524.z rfl rfl s4526) rfl fun a4527 p4528 s4529 => ?_
      have s4530 := p4528.o s4526 rfl
      refine s1k p4528.z rfl (yd p4528.z rfl rfl s4530) rfl fun a4531 p4532 s4533 => ?_
      have s4534 := p4532.o s4530 rfl
      refine s1 p4532.z (okPickF s4534 cst) rfl fun a4535 p4536 s4537 => ?_
      obtain rfl := Option.some.inj h
      exact rN ⟨rfl, (((((Pg.refl p4517.z).st p4524 rfl).st p4528 rfl).st p4532 rfl).st p4536 rfl), s4537, (G.refl _ _)⟩
     ·have s4538 := bv s4518 hb4521
      replace hb4520 := (ifP hb4521).symm.trans hb4520
      clear h; have h := hb4520; clear hb4520
      have s4539 := p4517.o (pg4514.o (p4485.o (pg4482.o (p4453.o (pg4450.o (p4413.o (pg4410.o (p4373.o (pg4370.o (p4332.o (p4329.o (pg4222.o s2762 rfl) rfl) rfl) rfl) rfl) rfl) rfl) rfl) rfl) rfl) rfl) rfl) rfl
      refine s1g p4517.z (okMv s4539) rfl (yd p4517.z rfl rfl s4538) fun a4540 p4541 s4542 => ?_
      have s4543 := p4541.o s4538 rfl
      have m4544 := m4011.g0 g4029
      have q4545 := q4012.t0 g4029.t0 g4029
      have m4546 := m4013.g0 g4029
      obtain ⟨t4547, ht4548, h⟩ := Option.bind_eq_some_iff.1 h
      refine lG rfl (yd p4541.z rfl rfl s4543) (oCall p4541.z Try.call11 (ag1 s4542) (c11 (oby147 :: (ownB hpy147_0 ++ L)) w4017 y70 oby70 hpy70_0 cx4030.lt (sepC (show ∀ x ∈ [oby70], x ∉ (ownB hpy70_0 ++ (oby147 :: (ownB hpy147_0 ++ L))) from (in1 (na (D2650.bo (i := 0) (j := 1) rfl rfl rfl) (nc (D2650.bb (i := 0) (j := 2) rfl rfl rfl) (na (D2650.bo (i := 0) (j := 3) rfl rfl rfl) (fun h => Nat.lt_irrefl _ (Nat.lt_of_lt_of_le (hL _ h) (Nat.le_trans cx50.g.sz (f67 _ (List.mem_append_left _ (.head _))))))))))) (sepC (show ∀ x ∈ ownB hpy70_0, x ∉ (oby147 :: (ownB hpy147_0 ++ L)) from (fun x hx => (nc (nbo (D2650.ob (i := 1) (j := 2) rfl rfl rfl) hx) (na ((D2650.dj (i := 1) (j := 3) rfl rfl rfl) x hx) ((fun x hx hl => D2650.dl (i := 1) rfl x hx hl) x hx))))) sepN)) m4544 q4545 _ ht4548) rfl fun v4552 a4549 w4550 hp4553 p4551 sp4551 => ?_)
      obtain ⟨rfl, g4556⟩ := hp4553
      have cx4557 := cx4030.ca g4556
      have s4558 := p4551.o s4543 rfl
      refine s1g p4551.z (okEq sp4551 cst) rfl (yd p4551.z rfl rfl s4558) fun a4559 p4560 s4561 => ?_
      have s4562 := p4560.o s4558 rfl
      refine s1 p4560.z (okPickT s4562 s4561) rfl fun a4563 p4564 s4565 => ?_
      obtain rfl := Option.some.inj h
      exact rN ⟨rfl, (((((Pg.refl p4517.z).st p4541 rfl).st p4551 rfl).st p4560 rfl).st p4564 rfl), s4565, g4556⟩
    rintro a4566 w4569 ⟨pg4567, s4568, g4570⟩
    have cx4571 := cx4030.ca g4570
    refine s1 pg4567.z (okAs s4568) rfl fun a4572 p4573 s4574 => ?_
    refine rN (thenN ?_)
    obtain rfl := Option.some.inj h
    exact wp_ret (ret1 p4573.z Try.results3 (rvT s4574) ⟨_, rfl, rfl, cx4571.g⟩)
   replace h := (ifN hb3979).symm.trans h
   refine wp_skip (thenN ?_)
   refine wp_seq ?_
   refine reg ?_
   have s4575 := p3977.o (p3974.o (pg2768.o s27 rfl) rfl) rfl
   refine s1 p3977.z (okMv s4575) rfl fun a4576 p4577 s4578 => ?_
   have s4579 := p4577.o (p3977.o (p3974.o s2765 rfl) rfl) rfl
   refine s1 p4577.z (okMv s4579) rfl fun a4580 p4581 s4582 => ?_
   have s4583 := p4581.o (p4577.o (p3977.o (p3974.o s2766 rfl) rfl) rfl) rfl
   refine s1 p4581.z (okMv s4583) rfl fun a4584 p4585 s4586 => ?_
   have s4587 := p4585.o (p4581.o (p4577.o (p3977.o (p3974.o (pg2768.o (pg30.o s0_1 rfl) rfl) rfl) rfl) rfl) rfl) rfl
   refine s1 p4585.z (okMv s4587) rfl fun a4588 p4589 s4590 => ?_
   have s4591 := p4589.o (p4585.o (p4581.o (p4577.o (p3977.o (p3974.o s2764 rfl) rfl) rfl) rfl) rfl) rfl
   refine s1 p4589.z (okMv s4591) rfl fun a4592 p4593 s4594 => ?_
   have s4595 := p4593.o (p4589.o (p4585.o (p4581.o s4578 rfl) rfl) rfl) rfl
   have s4596 := p4593.o (p4589.o (p4585.o s4582 rfl) rfl) rfl
   have s4597 := p4593.o (p4589.o s4586 rfl) rfl
   have s4598 := p4593.o s4590 rfl
   have q4599 := q2712.t0 g2751.t0 g2751
   have q4600 : RdS KTFrame (oby70 :: (ownB hpy70_0 ++ (oby147 :: (ownB hpy147_0 ++ L)))) w2747 v2709 z2702 := q4599.rd (fun i h => (List.mem_append_right _ h)) (fun b hb => (not_cons (fun e => n2718 (e ▸ hb)) (not_app ((djs n2720) _ hb) (not_cons (fun e => n2719 (e ▸ hb)) (not_app ((djs n2721) _ hb) (nb2716 _ hb))))))
   have cx4601 := cx2752.sub (fun i h => (List.mem_append_right _ h))
   have q4602 := q20.mono (((((((tAp g43 (fun _ h => nilO h) f45).trans ((Tr.refl (ownB v39 ++ L) w40).sub (fun i h => (List.mem_append_right _ h)))).trans t2654).trans g2694.t0).trans (tAp g2713 (fun _ h => nilO h) f2715)).trans g2751.t0).trans ((Tr.refl (ownB v2709 ++ (oby70 :: (ownB hpy70_0 ++ (oby147 :: (ownB hpy147_0 ++ L))))) w2747).sub (fun i h => (List.mem_append_right _ h))))
   have m4603 := ((m2704.g0 g2713).g0 g2751).g0 (G.refl [] w2747)
   have q4604 := ((q2706.t0 (tAp g2713 (fun _ h => nilO h) f2715) g2713).t0 g2751.t0 g2751).t0 ((Tr.refl (ownB v2709 ++ (oby70 :: (ownB hpy70_0 ++ (oby147 :: (ownB hpy147_0 ++ L))))) w2747).sub (fun i h => (List.mem_append_right _ h))) (G.refl [] w2747)
   have m4605 := ((m2705.g0 g2713).g0 g2751).g0 (G.refl [] w2747)
   have q4606 := ((q2707.t0 (tAp g2713 (fun _ h => nilO h) f2715) g2713).t0 g2751.t0 g2751).t0 ((Tr.refl (ownB v2709 ++ (oby70 :: (ownB hpy70_0 ++ (oby147 :: (ownB hpy147_0 ++ L))))) w2747).sub (fun i h => (List.mem_append_right _ h))) (G.refl [] w2747)
   obtain ⟨t4607, ht4608, h⟩ := Option.bind_eq_some_iff.1 h
   refine lS (oCall p4593.z Try.call10 (ag5 s4595 s4596 s4597 s4598 s4594) (c10 k L w2747 x0 h0 y70 oby70 hpy70_0 y147 oby147 hpy147_0 x1 z2702 v2709 cx4601.lt (sepC (show ∀ x ∈ [oby70], x ∉ (ownB hpy70_0 ++ (oby147 :: (ownB hpy147_0 ++ L))) from (in1 (na (D2650.bo (i := 0) (j := 1) rfl rfl rfl) (nc (D2650.bb (i := 0) (j := 2) rfl rfl rfl) (na (D2650.bo (i := 0) (j := 3) rfl rfl rfl) (fun h => Nat.lt_irrefl _ (Nat.lt_of_lt_of_le (hL _ h) (Nat.le_trans cx50.g.sz (f67 _ (List.mem_append_left _ (.head _))))))))))) (sepC (show ∀ x ∈ ownB hpy70_0, x ∉ (oby147 :: (ownB hpy147_0 ++ L)) from (fun x hx => (nc (nbo (D2650.ob (i := 1) (j := 2) rfl rfl rfl) hx) (na ((D2650.dj (i := 1) (j := 3) rfl rfl rfl) x hx) ((fun x hx hl => D2650.dl (i := 1) rfl x hx hl) x hx))))) (sepC (show ∀ x ∈ [oby147], x ∉ (ownB hpy147_0 ++ L) from (in1 (na (D2650.bo (i := 2) (j := 3) rfl rfl rfl) (fun h => Nat.lt_irrefl _ (Nat.lt_of_lt_of_le (hL _ h) (Nat.le_trans cx50.g.sz (f68 _ (List.mem_append_left _ (.head _))))))))) (sepC (show ∀ x ∈ ownB hpy147_0, x ∉ L from (fun x hx => ((fun x hx hl => D2650.dl (i := 3) rfl x hx hl) x hx))) sepN)))) q4602 m4603 q4604 m4605 q4606 q4600 _ ht4608) rfl fun v4612 a4609 w4610 hp4613 p4611 sp4611 => ?_)
   obtain ⟨h4614, h4615, h4616, h4617, h4618, rfl, q4619, q4620, q4621, m4622, q4623, m4624, q4625, D4626, f4629, f4630, lt4627, g4628⟩ := hp4613
   have hs4631 : ∀ i ∈ (oby70 :: (ownB hpy70_0 ++ (oby147 :: (ownB hpy147_0 ++ [])))), i ∈ [] ∨ w.heap.size ≤ i := (memC (.inr (Nat.le_trans cx50.g.sz (f67 _ (List.mem_append_left _ (.head _))))) (memA (fun x hx => .inr (Nat.le_trans cx50.g.sz ((fun _ h => f67 _ (List.mem_append_right _ (List.mem_append_left _ h))) x hx))) (memC (.inr (Nat.le_trans cx50.g.sz (f68 _ (List.mem_append_left _ (.head _))))) (memA (fun x hx => .inr (Nat.le_trans cx50.g.sz ((fun _ h => f68 _ (List.mem_append_right _ (List.mem_append_left _ h))) x hx))) memN))))
   have hs4632 : ∀ i ∈ (oby70 :: (ownB hpy70_0 ++ (oby147 :: (ownB hpy147_0 ++ [])))), i ∈ (oby70 :: (ownB hpy70_0 ++ (oby147 :: (ownB hpy147_0 ++ L)))) := (memC (.head _) (memA (fun _ h => (.tail _ (List.mem_append_left _ h))) (memC (.tail _ (List.mem_append_right _ (.head _))) (memA (fun _ h => (.tail _ (List.mem_append_right _ (.tail _ (List.mem_append_left _ h))))) memN))))
   have t4633 : Tr (oby70 :: (ownB hpy70_0 ++ (oby147 :: (ownB hpy147_0 ++ L)))) w2747 (oby70 :: (ownB h4617 ++ (oby147 :: (ownB h4618 ++ L)))) w4610 := G.tC g4628 hs4632 (memC (.inl (.head _)) (memA (frL f4629 hs4632) (memC (.inl (.tail _ (List.mem_append_right _ (.head _)))) (memA (frL f4630 hs4632) (fun i h => .inl ((.tail _ (List.mem_append_right _ (.tail _ (List.mem_append_right _ h))))))))))
   have cx4634 := cx4601.gs g4628 hs4631 lt4627
   refine s1 p4611.z (okMv sp4611) rfl fun a4635 p4636 s4637 => ?_
   refine s1 p4636.z (okExt (vs := [_, _, _, _, _]) s4637 rfl) rfl fun a4638 p4639 s4640 => ?_
   have s4641 := p4639.o s4637 rfl
   refine s1 p4639.z (okExt (vs := [_, _, _, _, _]) s4641 rfl) rfl fun a4642 p4643 s4644 => ?_
   have s4645 := p4643.o s4641 rfl
   refine s1 p4643.z (okExt (vs := [_, _, _, _, _]) s4645 rfl) rfl fun a4646 p4647 s4648 => ?_
   have s4649 := p4647.o s4645 rfl
   refine s1 p4647.z (okExt (vs := [_, _, _, _, _]) s4649 rfl) rfl fun a4650 p4651 s4652 => ?_
   have s4653 := p4651.o s4649 rfl
   refine s1 p4651.z (okExt (vs := [_, _, _, _, _]) s4653 rfl) rfl fun a4654 p4655 s4656 => ?_
   have s4657 := p4655.o (p4651.o (p4647.o (p4643.o s4640 rfl) rfl) rfl) rfl
   refine s1 p4655.z (okAs s4657) rfl fun a4658 p4659 s4660 => ?_
   have s4661 := p4659.o (p4655.o (p4651.o (p4647.o s4644 rfl) rfl) rfl) rfl
   refine s1 p4659.z (okAs s4661) rfl fun a4662 p4663 s4664 => ?_
   have s4665 := p4663.o (p4659.o (p4655.o (p4651.o s4648 rfl) rfl) rfl) rfl
   refine s1 p4663.z (okAs s4665) rfl fun a4666 p4667 s4668 => ?_
   have s4669 := p4667.o (p4663.o (p4659.o (p4655.o s4652 rfl) rfl) rfl) rfl
   refine s1 p4667.z (okAs s4669) rfl fun a4670 p4671 s4672 => ?_
   have s4673 := p4671.o (p4667.o (p4663.o (p4659.o s4656 rfl) rfl) rfl) rfl
   refine s1 p4671.z (okAs s4673) rfl fun a4674 p4675 s4676 => ?_
   refine rN (thenN ?_)
   refine wp_seq ?_
   refine reg ?_
   have s4677 := p4675.o (p4671.o (p4667.o (p4663.o (p4659.o (p4655.o (p4651.o (p4647.o (p4643.o (p4639.o (p4636.o (p4611.o (p4593.o (p4589.o (p4585.o (p4581.o (p4577.o (p3977.o (p3974.o s2767 rfl) rfl) rfl) rfl) rfl) rfl) rfl) rfl) rfl) rfl) rfl) rfl) rfl) rfl) rfl) rfl) rfl) rfl) rfl
   refine s1 p4675.z (okMv s4677) rfl fun a4678 p4679 s4680 => ?_
   refine s1 p4679.z (okGt s4680 cst) rfl fun a4681 p4682 s4683 => ?_
   refine s1 p4682.z (okMv s4683) rfl fun a4684 p4685 s4686 => ?_
   refine cutP 3 (fun a' => Pg Try.f3.ntmps [62, 63, 64] a4684 a' ∧ a'.eval (.tmp 64) = .bool ((decide (0 < t2744)) || (decide (x1 < 0)))) ?_ ?_
   ·rcases bf (decide (0 < t2744)) with hb4687 | hb4687
    ·have s4688 := bv s4686 hb4687
     have s4689 := p4685.o (p4682.o (p4679.o (p4675.o (p4671.o (p4667.o (p4663.o (p4659.o (p4655.o (p4651.o (p4647.o (p4643.o (p4639.o (p4636.o (p4611.o (p4593.o (p4589.o s4587 rfl) rfl) rfl) rfl) rfl) rfl) rfl) rfl) rfl) rfl) rfl) rfl) rfl) rfl) rfl) rfl) rfl
     refine s1g p4685.z (okMv s4689) rfl (yd p4685.z rfl rfl s4688) fun a4690 p4691 s4692 => ?_
     have s4693 := p4691.o s4688 rfl
     refine s1g p4691.z (okLt s4692 cst) rfl (yd p4691.z rfl rfl s4693) fun a4694 p4695 s4696 => ?_
     have s4697 := p4695.o s4693 rfl
     refine s1 p4695.z (okPickF s4697 s4696) rfl fun a4698 p4699 s4700 => ?_
     exact rN ⟨rfl, rfl, ((((Pg.refl p4685.z).st p4691 rfl).st p4695 rfl).st p4699 rfl), (orF hb4687 s4700)⟩
    ·have s4701 := bv s4686 hb4687
     refine s1k p4685.z rfl (yd p4685.z rfl rfl s4701) rfl fun a4702 p4703 s4704 => ?_
     have s4705 := p4703.o s4701 rfl
     refine s1k p4703.z rfl (yd p4703.z rfl rfl s4705) rfl fun a4706 p4707 s4708 => ?_
     have s4709 := p4707.o s4705 rfl
     refine s1 p4707.z (okPickT s4709 cst) rfl fun a4710 p4711 s4712 => ?_
     exact rN ⟨rfl, rfl, ((((Pg.refl p4685.z).st p4703 rfl).st p4707 rfl).st p4711 rfl), (orT hb4687 s4712)⟩
   rintro a4713 ⟨pg4714, s4715⟩
   refine s1 pg4714.z (okMv s4715) rfl fun a4716 p4717 s4718 => ?_
   refine cutP 3 (fun a' => Pg Try.f3.ntmps [66, 67, 68] a4716 a' ∧ a'.eval (.tmp 68) = .bool (((decide (0 < t2744)) || (decide (x1 < 0))) || (decide (1 < x1)))) ?_ ?_
   ·rcases bf ((decide (0 < t2744)) || (decide (x1 < 0))) with hb4719 | hb4719
    ·have s4720 := bv s4718 hb4719
     have s4721 := p4717.o (pg4714.o (p4685.o (p4682.o (p4679.o (p4675.o (p4671.o (p4667.o (p4663.o (p4659.o (p4655.o (p4651.o (p4647.o (p4643.o (p4639.o (p4636.o (p4611.o (p4593.o (p4589.o s4587 rfl) rfl) rfl) rfl) rfl) rfl) rfl) rfl) rfl) rfl) rfl) rfl) rfl) rfl) rfl) rfl) rfl) rfl) rfl
     refine s1g p4717.z (okMv s4721) rfl (yd p4717.z rfl rfl s4720) fun a4722 p4723 s4724 => ?_
     have s4725 := p4723.o s4720 rfl
     refine s1g p4723.z (okGt s4724 cst) rfl (yd p4723.z rfl rfl s4725) fun a4726 p4727 s4728 => ?_
     have s4729 := p4727.o s4725 rfl
     refine s1 p4727.z (okPickF s4729 s4728) rfl fun a4730 p4731 s4732 => ?_
     exact rN ⟨rfl, rfl, ((((Pg.refl p4717.z).st p4723 rfl).st p4727 rfl).st p4731 rfl), (orF hb4719 s4732)⟩
    ·have s4733 := bv s4718 hb4719
     refine s1k p4717.z rfl (yd p4717.z rfl rfl s4733) rfl fun a4734 p4735 s4736 => ?_
     have s4737 := p4735.o s4733 rfl
     refine s1k p4735.z rfl (yd p4735.z rfl rfl s4737) rfl fun a4738 p4739 s4740 => ?_
     have s4741 := p4739.o s4737 rfl
     refine s1 p4739.z (okPickT s4741 cst) rfl fun a4742 p4743 s4744 => ?_
     exact rN ⟨rfl, rfl, ((((Pg.refl p4717.z).st p4735 rfl).st p4739 rfl).st p4743 rfl), (orT hb4719 s4744)⟩
   rintro a4745 ⟨pg4746, s4747⟩
   refine s1 pg4746.z (okMv s4747) rfl fun a4748 p4749 s4750 => ?_
   refine cutP 3 (fun a' => Pg Try.f3.ntmps [70, 71, 72] a4748 a' ∧ a'.eval (.tmp 72) = .bool ((((decide (0 < t2744)) || (decide (x1 < 0))) || (decide (1 < x1))) || (t2687 == 0))) ?_ ?_
   ·rcases bf (((decide (0 < t2744)) || (decide (x1 < 0))) || (decide (1 < x1))) with hb4751 | hb4751
    ·have s4752 := bv s4750 hb4751
     have s4753 := p4749.o (pg4746.o (p4717.o (pg4714.o (p4685.o (p4682.o (p4679.o (p4675.o (p4671.o (p4667.o (p4663.o (p4659.o (p4655.o (p4651.o (p4647.o (p4643.o (p4639.o (p4636.o (p4611.o (p4593.o (p4589.o (p4585.o (p4581.o (p4577.o (p3977.o (p3974.o s2763 rfl) rfl) rfl) rfl) rfl) rfl) rfl) rfl) rfl) rfl) rfl) rfl) rfl) rfl) rfl) rfl) rfl) rfl) rfl) rfl) rfl) rfl) rfl) rfl) rfl) rfl
     refine s1g p4749.z (okMv s4753) rfl (yd p4749.z rfl rfl s4752) fun a4754 p4755 s4756 => ?_
     have s4757 := p4755.o s4752 rfl
     refine s1g p4755.z (okEq s4756 cst) rfl (yd p4755.z rfl rfl s4757) fun a4758 p4759 s4760 => ?_
     have s4761 := p4759.o s4757 rfl
     refine s1 p4759.z (okPickF s4761 s4760) rfl fun a4762 p4763 s4764 => ?_
     exact rN ⟨rfl, rfl, ((((Pg.refl p4749.z).st p4755 rfl).st p4759 rfl).st p4763 rfl), (orF hb4751 s4764)⟩
    ·have s4765 := bv s4750 hb4751
     refine s1k p4749.z rfl (yd p4749.z rfl rfl s4765) rfl fun a4766 p4767 s4768 => ?_
     have s4769 := p4767.o s4765 rfl
     refine s1k p4767.z rfl (yd p4767.z rfl rfl s4769) rfl fun a4770 p4771 s4772 => ?_
     have s4773 := p4771.o s4769 rfl
     refine s1 p4771.z (okPickT s4773 cst) rfl fun a4774 p4775 s4776 => ?_
     exact rN ⟨rfl, rfl, ((((Pg.refl p4749.z).st p4767 rfl).st p4771 rfl).st p4775 rfl), (orT hb4751 s4776)⟩
   rintro a4777 ⟨pg4778, s4779⟩
   refine s1 pg4778.z (okMv s4779) rfl fun a4780 p4781 s4782 => ?_
   refine cutP 3 (fun a' => Pg Try.f3.ntmps [74, 75, 76] a4780 a' ∧ a'.eval (.tmp 76) = .bool (((((decide (0 < t2744)) || (decide (x1 < 0))) || (decide (1 < x1))) || (t2687 == 0)) || (decide (16 < t2687)))) ?_ ?_
   ·rcases bf ((((decide (0 < t2744)) || (decide (x1 < 0))) || (decide (1 < x1))) || (t2687 == 0)) with hb4783 | hb4783
    ·have s4784 := bv s4782 hb4783
     have s4785 := p4781.o (pg4778.o (p4749.o (pg4746.o (p4717.o (pg4714.o (p4685.o (p4682.o (p4679.o (p4675.o (p4671.o (p4667.o (p4663.o (p4659.o (p4655.o (p4651.o (p4647.o (p4643.o (p4639.o (p4636.o (p4611.o (p4593.o (p4589.o (p4585.o (p4581.o (p4577.o (p3977.o (p3974.o s2763 rfl) rfl) rfl) rfl) rfl) rfl) rfl) rfl) rfl) rfl) rfl) rfl) rfl) rfl) rfl) rfl) rfl) rfl) rfl) rfl) rfl) rfl) rfl) rfl) rfl) rfl) rfl) rfl
     refine s1g p4781.z (okMv s4785) rfl (yd p4781.z rfl rfl s4784) fun a4786 p4787 s4788 => ?_
     have s4789 := p4787.o s4784 rfl
     refine s1g p4787.z (okGt s4788 cst) rfl (yd p4787.z rfl rfl s4789) fun a4790 p4791 s4792 => ?_
     have s4793 := p4791.o s4789 rfl
     refine s1 p4791.z (okPickF s4793 s4792) rfl fun a4794 p4795 s4796 => ?_
     exact rN ⟨rfl, rfl, ((((Pg.refl p4781.z).st p4787 rfl).st p4791 rfl).st p4795 rfl), (orF hb4783 s4796)⟩
    ·have s4797 := bv s4782 hb4783
     refine s1k p4781.z rfl (yd p4781.z rfl rfl s4797) rfl fun a4798 p4799 s4800 => ?_
     have s4801 := p4799.o s4797 rfl
     refine s1k p4799.z rfl (yd p4799.z rfl rfl s4801) rfl fun a4802 p4803 s4804 => ?_
     have s4805 := p4803.o s4801 rfl
     refine s1 p4803.z (okPickT s4805 cst) rfl fun a4806 p4807 s4808 => ?_
     exact rN ⟨rfl, rfl, ((((Pg.refl p4781.z).st p4799 rfl).st p4803 rfl).st p4807 rfl), (orT hb4783 s4808)⟩
   rintro a4809 ⟨pg4810, s4811⟩
   refine s1 pg4810.z (okAs s4811) rfl fun a4812 p4813 s4814 => ?_
   refine rN (thenN ?_)
   refine wp_seq ?_
   refine wp_seq ?_
   refine reg ?_
   refine s1 p4813.z (okMv s4814) rfl fun a4815 p4816 s4817 => ?_
   refine s1 p4816.z (okNot s4817) rfl fun a4818 p4819 s4820 => ?_
   refine rN (thenN ?_)
   have s4821 := p4819.o (p4816.o (p4813.o (pg4810.o (p4781.o (pg4778.o (p4749.o (pg4746.o (p4717.o (pg4714.o (p4685.o (p4682.o (p4679.o (p4675.o (p4671.o (p4667.o (p4663.o s4660 rfl) rfl) rfl) rfl) rfl) rfl) rfl) rfl) rfl) rfl) rfl) rfl) rfl) rfl) rfl) rfl) rfl
   have s4822 := p4819.o (p4816.o (p4813.o (pg4810.o (p4781.o (pg4778.o (p4749.o (pg4746.o (p4717.o (pg4714.o (p4685.o (p4682.o (p4679.o (p4675.o (p4671.o (p4667.o s4664 rfl) rfl) rfl) rfl) rfl) rfl) rfl) rfl) rfl) rfl) rfl) rfl) rfl) rfl) rfl) rfl
   have s4823 := p4819.o (p4816.o (p4813.o (pg4810.o (p4781.o (pg4778.o (p4749.o (pg4746.o (p4717.o (pg4714.o (p4685.o (p4682.o (p4679.o (p4675.o (p4671.o s4668 rfl) rfl) rfl) rfl) rfl) rfl) rfl) rfl) rfl) rfl) rfl) rfl) rfl) rfl) rfl
   have s4824 := p4819.o (p4816.o (p4813.o (pg4810.o (p4781.o (pg4778.o (p4749.o (pg4746.o (p4717.o (pg4714.o (p4685.o (p4682.o (p4679.o (p4675.o s4672 rfl) rfl) rfl) rfl) rfl) rfl) rfl) rfl) rfl) rfl) rfl) rfl) rfl) rfl
   have s4825 := p4819.o (p4816.o (p4813.o (pg4810.o (p4781.o (pg4778.o (p4749.o (pg4746.o (p4717.o (pg4714.o (p4685.o (p4682.o (p4679.o s4676 rfl) rfl) rfl) rfl) rfl) rfl) rfl) rfl) rfl) rfl) rfl) rfl) rfl
   have pg4826 : Pg _ [17, 18, 19, 20, 21, 22, 45, 46, 47, 48, 49, 50, 51, 52, 53, 54, 55, 56, 57, 58, 59, 60, 61, 62, 63, 64, 65, 66, 67, 68, 69, 70, 71, 72, 73, 74, 75, 76, 77, 78] _ _ := (((((((((((((((((((((((((((((((((Pg.refl pg2768.z).st p3974 rfl).st p3977 rfl).st p4577 rfl).st p4581 rfl).st p4585 rfl).st p4589 rfl).st p4593 rfl).st p4611 rfl).st p4636 rfl).st p4639 rfl).st p4643 rfl).st p4647 rfl).st p4651 rfl).st p4655 rfl).st p4659 rfl).st p4663 rfl).st p4667 rfl).st p4671 rfl).st p4675 rfl).st p4679 rfl).st p4682 rfl).st p4685 rfl).tr pg4714 rfl).st p4717 rfl).tr pg4746 rfl).st p4749 rfl).tr pg4778 rfl).st p4781 rfl).tr pg4810 rfl).st p4813 rfl).st p4816 rfl).st p4819 rfl)
   refine cnd s4820 (fun hb4827 => ?_) (fun hb4827 => ?_)
   ·replace h := (ifP hb4827).symm.trans h
    refine wp_seq ?_
    refine reg ?_
    have s4828 := pg4826.o (pg2768.o s29 rfl) rfl
    refine s1 pg4826.z (okMv s4828) rfl fun a4829 p4830 s4831 => ?_
    refine s1 p4830.z (okMv s4831) rfl fun a4832 p4833 s4834 => ?_
    refine cutP 3 (fun a' => Pg Try.f3.ntmps [81, 82, 83] a4832 a' ∧ a'.eval (.tmp 83) = .bool (t4 && ((t4607.2.2.2.2.1).isN))) ?_ ?_
    ·rcases bf t4 with hb4835 | hb4835
     ·have s4836 := bv s4834 hb4835
      refine s1k p4833.z rfl (yd p4833.z rfl rfl s4836) rfl fun a4837 p4838 s4839 => ?_
      have s4840 := p4838.o s4836 rfl
      refine s1k p4838.z rfl (yd p4838.z rfl rfl s4840) rfl fun a4841 p4842 s4843 => ?_
      have s4844 := p4842.o s4840 rfl
      refine s1 p4842.z (okPickF s4844 cst) rfl fun a4845 p4846 s4847 => ?_
      exact rN ⟨rfl, rfl, ((((Pg.refl p4833.z).st p4838 rfl).st p4842 rfl).st p4846 rfl), (andF hb4835 s4847)⟩
     ·have s4848 := bv s4834 hb4835
      have s4849 := p4833.o (p4830.o s4825 rfl) rfl
      refine s1g p4833.z (okMv s4849) rfl (yd p4833.z rfl rfl s4848) fun a4850 p4851 s4852 => ?_
      have s4853 := p4851.o s4848 rfl
      refine s1g p4851.z (okEEqN ef33 s4852 q4621 _) rfl (yd p4851.z rfl rfl s4853) fun a4854 p4855 s4856 => ?_
      have s4857 := p4855.o s4853 rfl
      refine s1 p4855.z (okPickT s4857 s4856) rfl fun a4858 p4859 s4860 => ?_
      exact rN ⟨rfl, rfl, ((((Pg.refl p4833.z).st p4851 rfl).st p4855 rfl).st p4859 rfl), (andT hb4835 s4860)⟩
    rintro a4861 ⟨pg4862, s4863⟩
    refine s1 pg4862.z (okMv s4863) rfl fun a4864 p4865 s4866 => ?_
    refine cutP 3 (fun a' => Pg Try.f3.ntmps [85, 86, 87] a4864 a' ∧ a'.eval (.tmp 87) = .bool ((t4 && ((t4607.2.2.2.2.1).isN)) && (decide (0 ≤ t4607.2.2.1)))) ?_ ?_
    ·rcases bf (t4 && ((t4607.2.2.2.2.1).isN)) with hb4867 | hb4867
     ·have s4868 := bv s4866 hb4867
      refine s1k p4865.z rfl (yd p4865.z rfl rfl s4868) rfl fun a4869 p4870 s4871 => ?_
      have s4872 := p4870.o s4868 rfl
      refine s1k p4870.z rfl (yd p4870.z rfl rfl s4872) rfl fun a4873 p4874 s4875 => ?_
      have s4876 := p4874.o s4872 rfl
      refine s1 p4874.z (okPickF s4876 cst) rfl fun a4877 p4878 s4879 => ?_
      exact rN ⟨rfl, rfl, ((((Pg.refl p4865.z).st p4870 rfl).st p4874 rfl).st p4878 rfl), (andF hb4867 s4879)⟩
     ·have s4880 := bv s4866 hb4867
      have s4881 := p4865.o (pg4862.o (p4833.o (p4830.o s4823 rfl) rfl) rfl) rfl
      refine s1g p4865.z (okMv s4881) rfl (yd p4865.z rfl rfl s4880) fun a4882 p4883 s4884 => ?_
      have s4885 := p4883.o s4880 rfl
      refine s1g p4883.z (okGe s4884 cst) rfl (yd p4883.z rfl rfl s4885) fun a4886 p4887 s4888 => ?_
      have s4889 := p4887.o s4885 rfl
      refine s1 p4887.z (okPickT s4889 s4888) rfl fun a4890 p4891 s4892 => ?_
      exact rN ⟨rfl, rfl, ((((Pg.refl p4865.z).st p4883 rfl).st p4887 rfl).st p4891 rfl), (andT hb4867 s4892)⟩
    rintro a4893 ⟨pg4894, s4895⟩
    refine s1 pg4894.z (okMv s4895) rfl fun a4896 p4897 s4898 => ?_
    refine cutP 3 (fun a' => Pg Try.f3.ntmps [89, 90, 91] a4896 a' ∧ a'.eval (.tmp 91) = .bool (((t4 && ((t4607.2.2.2.2.1).isN)) && (decide (0 ≤ t4607.2.2.1))) && (decide (t4607.2.2.1 ≤ 3)))) ?_ ?_
    ·rcases bf ((t4 && ((t4607.2.2.2.2.1).isN)) && (decide (0 ≤ t4607.2.2.1))) with hb4899 | hb4899
     ·have s4900 := bv s4898 hb4899
      refine s1k p4897.z rfl (yd p4897.z rfl rfl s4900) rfl fun a4901 p4902 s4903 => ?_
      have s4904 := p4902.o s4900 rfl
      refine s1k p4902.z rfl (yd p4902.z rfl rfl s4904) rfl fun a4905 p4906 s4907 => ?_
      have s4908 := p4906.o s4904 rfl
      refine s1 p4906.z (okPickF s4908 cst) rfl fun a4909 p4910 s4911 => ?_
      exact rN ⟨rfl, rfl, ((((Pg.refl p4897.z).st p4902 rfl).st p4906 rfl).st p4910 rfl), (andF hb4899 s4911)⟩
     ·have s4912 := bv s4898 hb4899
      have s4913 := p4897.o (pg4894.o (p4865.o (pg4862.o (p4833.o (p4830.o s4823 rfl) rfl) rfl) rfl) rfl) rfl
      refine s1g p4897.z (okMv s4913) rfl (yd p4897.z rfl rfl s4912) fun a4914 p4915 s4916 => ?_
      have s4917 := p4915.o s4912 rfl
      refine s1g p4915.z (okLe s4916 cst) rfl (yd p4915.z rfl rfl s4917) fun a4918 p4919 s4920 => ?_
      have s4921 := p4919.o s4917 rfl
      refine s1 p4919.z (okPickT s4921 s4920) rfl fun a4922 p4923 s4924 => ?_
      exact rN ⟨rfl, rfl, ((((Pg.refl p4897.z).st p4915 rfl).st p4919 rfl).st p4923 rfl), (andT hb4899 s4924)⟩
    rintro a4925 ⟨pg4926, s4927⟩
    refine s1 pg4926.z (okAs s4927) rfl fun a4928 p4929 s4930 => ?_
    refine rN (thenN ?_)
    obtain rfl := Option.some.inj h
    exact wp_ret (thenR (ret1 p4929.z Try.results3 (rvT s4930) ⟨_, rfl, rfl, cx4634.g⟩))
   replace h := (ifN hb4827).symm.trans h
   refine wp_skip (thenN ?_)
   refine wp_seq ?_
   refine reg ?_
   have s4931 := pg4826.o (pg2768.o s29 rfl) rfl
   refine s1 pg4826.z (okMv s4931) rfl fun a4932 p4933 s4934 => ?_
   refine s1 p4933.z (okMv s4934) rfl fun a4935 p4936 s4937 => ?_
   refine cutP 4 (fun a' => Pg Try.f3.ntmps [94, 95, 96, 97] a4935 a' ∧ a'.eval (.tmp 97) = .bool (t4 && (decide (t4607.2.2.2.2.1 = .code 1)))) ?_ ?_
   ·rcases bf t4 with hb4938 | hb4938
    ·have s4939 := bv s4937 hb4938
     refine s1k p4936.z rfl (yd p4936.z rfl rfl s4939) rfl fun a4940 p4941 s4942 => ?_
     have s4943 := p4941.o s4939 rfl
     refine s1k p4941.z rfl (yd p4941.z rfl rfl s4943) rfl fun a4944 p4945 s4946 => ?_
     have s4947 := p4945.o s4943 rfl
     refine s1k p4945.z rfl (yd p4945.z rfl rfl s4947) rfl fun a4948 p4949 s4950 => ?_
     have s4951 := p4949.o s4947 rfl
     refine s1 p4949.z (okPickF s4951 cst) rfl fun a4952 p4953 s4954 => ?_
     exact rN ⟨rfl, rfl, (((((Pg.refl p4936.z).st p4941 rfl).st p4945 rfl).st p4949 rfl).st p4953 rfl), (andF hb4938 s4954)⟩
    ·have s4955 := bv s4937 hb4938
     have s4956 := p4936.o (p4933.o s4825 rfl) rfl
     refine s1g p4936.z (okMv s4956) rfl (yd p4936.z rfl rfl s4955) fun a4957 p4958 s4959 => ?_
     have s4960 := p4958.o s4955 rfl
     refine s1g p4958.z (okMkI Try.underlying36 cst _) rfl (yd p4958.z rfl rfl s4960) fun a4961 p4962 s4963 => ?_
     have s4964 := p4962.o s4960 rfl
     have s4965 := p4962.o s4959 rfl
     refine s1g p4962.z (okEEqC ef33 s4965 q4621 s4963 _) rfl (yd p4962.z rfl rfl s4964) fun a4966 p4967 s4968 => ?_
     have s4969 := p4967.o s4964 rfl
     refine s1 p4967.z (okPickT s4969 s4968) rfl fun a4970 p4971 s4972 => ?_
     exact rN ⟨rfl, rfl, (((((Pg.refl p4936.z).st p4958 rfl).st p4962 rfl).st p4967 rfl).st p4971 rfl), (andT hb4938 s4972)⟩
   rintro a4973 ⟨pg4974, s4975⟩
   refine s1 pg4974.z (okMv s4975) rfl fun a4976 p4977 s4978 => ?_
   refine cutP 4 (fun a' => Pg Try.f3.ntmps [99, 100, 101, 102] a4976 a' ∧ a'.eval (.tmp 102) = .bool ((t4 && (decide (t4607.2.2.2.2.1 = .code 1))) && ((t4607.1.length : Int) == 0))) ?_ ?_
   ·rcases bf (t4 && (decide (t4607.2.2.2.2.1 = .code 1))) with hb4979 | hb4979
    ·have s4980 := bv s4978 hb4979
     refine s1k p4977.z rfl (yd p4977.z rfl rfl s4980) rfl fun a4981 p4982 s4983 => ?_
     have s4984 := p4982.o s4980 rfl
     refine s1k p4982.z rfl (yd p4982.z rfl rfl s4984) rfl fun a4985 p4986 s4987 => ?_
     have s4988 := p4986.o s4984 rfl
     refine s1k p4986.z rfl (yd p4986.z rfl rfl s4988) rfl fun a4989 p4990 s4991 => ?_
     have s4992 := p4990.o s4988 rfl
     refine s1 p4990.z (okPickF s4992 cst) rfl fun a4993 p4994 s4995 => ?_
     exact rN ⟨rfl, rfl, (((((Pg.refl p4977.z).st p4982 rfl).st p4986 rfl).st p4990 rfl).st p4994 rfl), (andF hb4979 s4995)⟩
    ·have s4996 := bv s4978 hb4979
     have s4997 := p4977.o (pg4974.o (p4936.o (p4933.o s4821 rfl) rfl) rfl) rfl
     refine s1g p4977.z (okMv s4997) rfl (yd p4977.z rfl rfl s4996) fun a4998 p4999 s5000 => ?_
     have s5001 := p4999.o s4996 rfl
     refine s1g p4999.z (okLenR Try.underlying30 s5000 q4619) rfl (yd p4999.z rfl rfl s5001) fun a5002 p5003 s5004 => ?_
     have s5005 := p5003.o s5001 rfl
     refine s1g p5003.z (okEq s5004 cst) rfl (yd p5003.z rfl rfl s5005) fun a5006 p5007 s5008 => ?_
     have s5009 := p5007.o s5005 rfl
     refine s1 p5007.z (okPickT s5009 s5008) rfl fun a5010 p5011 s5012 => ?_
     exact rN ⟨rfl, rfl, (((((Pg.refl p4977.z).st p4999 rfl).st p5003 rfl).st p5007 rfl).st p5011 rfl), (andT hb4979 s5012)⟩
   rintro a5013 ⟨pg5014, s5015⟩
   refine s1 pg5014.z (okMv s5015) rfl fun a5016 p5017 s5018 => ?_
   refine cutP 4 (fun a' => Pg Try.f3.ntmps [104, 105, 106, 107] a5016 a' ∧ a'.eval (.tmp 107) = .bool (((t4 && (decide (t4607.2.2.2.2.1 = .code 1))) && ((t4607.1.length : Int) == 0)) && ((t4607.2.1.length : Int) == 0))) ?_ ?_
   ·rcases bf ((t4 && (decide (t4607.2.2.2.2.1 = .code 1))) && ((t4607.1.length : Int) == 0)) with hb5019 | hb5019
    ·have s5020 := bv s5018 hb5019
     refine s1k p5017.z rfl (yd p5017.z rfl rfl s5020) rfl fun a5021 p5022 s5023 => ?_
     have s5024 := p5022.o s5020 rfl
     refine s1k p5022.z rfl (yd p5022.z rfl rfl s5024) rfl fun a5025 p5026 s5027 => ?_
     have s5028 := p5026.o s5024 rfl
     refine s1k p5026.z rfl (yd p5026.z rfl rfl s5028) rfl fun a5029 p5030 s5031 => ?_
     have s5032 := p5030.o s5028 rfl
     refine s1 p5030.z (okPickF s5032 cst) rfl fun a5033 p5034 s5035 => ?_
     exact rN ⟨rfl, rfl, (((((Pg.refl p5017.z).st p5022 rfl).st p5026 rfl).st p5030 rfl).st p5034 rfl), (andF hb5019 s5035)⟩
    ·have s5036 := bv s5018 hb5019
     have s5037 := p5017.o (pg5014.o (p4977.o (pg4974.o (p4936.o (p4933.o s4822 rfl) rfl) rfl) rfl) rfl) rfl
     refine s1g p5017.z (okMv s5037) rfl (yd p5017.z rfl rfl s5036) fun a5038 p5039 s5040 => ?_
     have s5041 := p5039.o s5036 rfl
     refine s1g p5039.z (okLenR Try.underlying31 s5040 q4620) rfl (yd p5039.z rfl rfl s5041) fun a5042 p5043 s5044 => ?_
     have s5045 := p5043.o s5041 rfl
     refine s1g p5043.z (okEq s5044 cst) rfl (yd p5043.z rfl rfl s5045) fun a5046 p5047 s5048 => ?_
     have s5049 := p5047.o s5045 rfl
     refine s1 p5047.z (okPickT s5049 s5048) rfl fun a5050 p5051 s5052 => ?_
     exact rN ⟨rfl, rfl, (((((Pg.refl p5017.z).st p5039 rfl).st p5043 rfl).st p5047 rfl).st p5051 rfl), (andT hb5019 s5052)⟩
   rintro a5053 ⟨pg5054, s5055⟩
   refine s1 pg5054.z (okMv s5055) rfl fun a5056 p5057 s5058 => ?_
   refine cutP 3 (fun a' => Pg Try.f3.ntmps [109, 110, 111] a5056 a' ∧ a'.eval (.tmp 111) = .bool ((((t4 && (decide (t4607.2.2.2.2.1 = .code 1))) && ((t4607.1.length : Int) == 0)) && ((t4607.2.1.length : Int) == 0)) && (t4607.2.2.1 == 0))) ?_ ?_
   ·rcases bf (((t4 && (decide (t4607.2.2.2.2.1 = .code 1))) && ((t4607.1.length : Int) == 0)) && ((t4607.2.1.length : Int) == 0)) with hb5059 | hb5059
    ·have s5060 := bv s5058 hb5059
     refine s1k p5057.z rfl (yd p5057.z rfl rfl s5060) rfl fun a5061 p5062 s5063 => ?_
     have s5064 := p5062.o s5060 rfl
     refine s1k p5062.z rfl (yd p5062.z rfl rfl s5064) rfl fun a5065 p5066 s5067 => ?_
     have s5068 := p5066.o s5064 rfl
     refine s1 p5066.z (okPickF s5068 cst) rfl fun a5069 p5070 s5071 => ?_
     exact rN ⟨rfl, rfl, ((((Pg.refl p5057.z).st p5062 rfl).st p5066 rfl).st p5070 rfl), (andF hb5059 s5071)⟩
    ·have s5072 := bv s5058 hb5059
     have s5073 := p5057.o (pg5054.o (p5017.o (pg5014.o (p4977.o (pg4974.o (p4936.o (p4933.o s4823 rfl) rfl) rfl) rfl) rfl) rfl) rfl) rfl
     refine s1g p5057.z (okMv s5073) rfl (yd p5057.z rfl rfl s5072) fun a5074 p5075 s5076 => ?_
     have s5077 := p5075.o s5072 rfl
     refine s1g p5075.z (okEq s5076 cst) rfl (yd p5075.z rfl rfl s5077) fun a5078 p5079 s5080 => ?_
     have s5081 := p5079.o s5077 rfl
     refine s1 p5079.z (okPickT s5081 s5080) rfl fun a5082 p5083 s5084 => ?_
     exact rN ⟨rfl, rfl, ((((Pg.refl p5057.z).st p5075 rfl).st p5079 rfl).st p5083 rfl), (andT hb5059 s5084)⟩
   rintro a5085 ⟨pg5086, s5087⟩
   refine s1 pg5086.z (okMv s5087) rfl fun a5088 p5089 s5090 => ?_
   refine cutP 3 (fun a' => Pg Try.f3.ntmps [113, 114, 115] a5088 a' ∧ a'.eval (.tmp 115) = .bool (((((t4 && (decide (t4607.2.2.2.2.1 = .code 1))) && ((t4607.1.length : Int) == 0)) && ((t4607.2.1.length : Int) == 0)) && (t4607.2.2.1 == 0)) && (t4607.2.2.2.1 == 0))) ?_ ?_
   ·rcases bf ((((t4 && (decide (t4607.2.2.2.2.1 = .code 1))) && ((t4607.1.length : Int) == 0)) && ((t4607.2.1.length : Int) == 0)) && (t4607.2.2.1 == 0)) with hb5091 | hb5091
    ·have s5092 := bv s5090 hb5091
     refine s1k p5089.z rfl (yd p5089.z rfl rfl s5092) rfl fun a5093 p5094 s5095 => ?_
     have s5096 := p5094.o s5092 rfl
     refine s1k p5094.z rfl (yd p5094.z rfl rfl s5096) rfl fun a5097 p5098 s5099 => ?_
     have s5100 := p5098.o s5096 rfl
     refine s1 p5098.z (okPickF s5100 cst) rfl fun a5101 p5102 s5103 => ?_
     exact rN ⟨rfl, rfl, ((((Pg.refl p5089.z).st p5094 rfl).st p5098 rfl).st p5102 rfl), (andF hb5091 s5103)⟩
    ·have s5104 := bv s5090 hb5091
     have s5105 := p5089.o (pg5086.o (p5057.o (pg5054.o (p5017.o (pg5014.o (p4977.o (pg4974.o (p4936.o (p4933.o s4824 rfl) rfl) rfl) rfl) rfl) rfl) rfl) rfl) rfl) rfl
     refine s1g p5089.z (okMv s5105) rfl (yd p5089.z rfl rfl s5104) fun a5106 p5107 s5108 => ?_
     have s5109 := p5107.o s5104 rfl
     refine s1g p5107.z (okEq s5108 cst) rfl (yd p5107.z rfl rfl s5109) fun a5110 p5111 s5112 => ?_
     have s5113 := p5111.o s5109 rfl
     refine s1 p5111.z (okPickT s5113 s5112) rfl fun a5114 p5115 s5116 => ?_
     exact rN ⟨rfl, rfl, ((((Pg.refl p5089.z).st p5107 rfl).st p5111 rfl).st p5115 rfl), (andT hb5091 s5116)⟩
   rintro a5117 ⟨pg5118, s5119⟩
   refine s1 pg5118.z (okMv s5119) rfl fun a5120 p5121 s5122 => ?_
   obtain ⟨b5123, hb5124, h⟩ := Option.bind_eq_some_iff.1 h
   refine cutL 4 (fun a' w' => Pg Try.f3.ntmps [117, 118, 119, 120] a5120 a' ∧ a'.eval (.tmp 120) = .bool b5123 ∧ G [] w4610 w') ?_ ?_
   ·rcases bf (((((t4 && (decide (t4607.2.2.2.2.1 = .code 1))) && ((t4607.1.length : Int) == 0)) && ((t4607.2.1.length : Int) == 0)) && (t4607.2.2.1 == 0)) && (t4607.2.2.2.1 == 0)) with hb5125 | hb5125
    ·have s5126 := bv s5122 hb5125
     replace hb5124 := (ifN hb5125).symm.trans hb5124
     clear h; have h := hb5124; clear hb5124
     refine s1k p5121.z rfl (yd p5121.z rfl rfl s5126) rfl fun a5127 p5128 s5129 => ?_
     have s5130 := p5128.o s5126 rfl
     refine s1k p5128.z rfl (yd p5128.z rfl rfl s5130) rfl fun a5131 p5132 s5133 => ?_
     have s5134 := p5132.o s5130 rfl
     refine s1k p5132.z rfl (yd p5132.z rfl rfl s5134) rfl fun a5135 p5136 s5137 => ?_
     have s5138 := p5136.o s5134 rfl
     refine s1 p5136.z (okPickF s5138 cst) rfl fun a5139 p5140 s5141 => ?_
     obtain rfl := Option.some.inj h
     exact rN ⟨rfl, (((((Pg.refl p5121.z).st p5128 rfl).st p5132 rfl).st p5136 rfl).st p5140 rfl), s5141, (G.refl _ _)⟩
    ·have s5142 := bv s5122 hb5125
     replace hb5124 := (ifP hb5125).symm.trans hb5124
     clear h; have h := hb5124; clear hb5124
     have s5143 := p5121.o (pg5118.o (p5089.o (pg5086.o (p5057.o (pg5054.o (p5017.o (pg5014.o (p4977.o (pg4974.o (p4936.o (p4933.o (pg4826.o s2762 rfl) rfl) rfl) rfl) rfl) rfl) rfl) rfl) rfl) rfl) rfl) rfl) rfl
     refine s1g p5121.z (okMv s5143) rfl (yd p5121.z rfl rfl s5142) fun a5144 p5145 s5146 => ?_
     have s5147 := p5145.o s5142 rfl
     obtain ⟨t5148, ht5149, h⟩ := Option.bind_eq_some_iff.1 h
     refine lG rfl (yd p5145.z rfl rfl s5147) (oCall p5145.z Try.call11 (ag1 s5146) (c11 (oby147 :: (ownB h4618 ++ L)) w4610 t4607.2.2.2.2.2.1 oby70 h4617 cx4634.lt (sepC (show ∀ x ∈ [oby70], x ∉ (ownB h4617 ++ (oby147 :: (ownB h4618 ++ L))) from (in1 (na (D4626.bo (i := 0) (j := 1) rfl rfl rfl) (nc (D2650.bb (i := 0) (j := 2) rfl rfl rfl) (na (D4626.bo (i := 0) (j := 3) rfl rfl rfl) (fun h => Nat.lt_irrefl _ (Nat.lt_of_lt_of_le (hL _ h) (Nat.le_trans cx50.g.sz (f67 _ (List.mem_append_left _ (.head _))))))))))) (sepC (show ∀ x ∈ ownB h4617, x ∉ (oby147 :: (ownB h4618 ++ L)) from (fun x hx => (nc (nbo (D4626.ob (i := 1) (j := 2) rfl rfl rfl) hx) (na ((D4626.dj (i := 1) (j := 3) rfl rfl rfl) x hx) ((fun x hx hl => D4626.dl (i := 1) rfl x hx hl) x hx))))) sepN)) m4622 q4623 _ ht5149) rfl fun v5153 a5150 w5151 hp5154 p5152 sp5152 => ?_)
     obtain ⟨rfl, g5157⟩ := hp5154
     have cx5158 := cx4634.ca g5157
     have s5159 := p5152.o s5147 rfl
     refine s1g p5152.z (okEq sp5152 cst) rfl (yd p5152.z rfl rfl s5159) fun a5160 p5161 s5162 => ?_
     have s5163 := p5161.o s5159 rfl
     refine s1 p5161.z (okPickT s5163 s5162) rfl fun a5164 p5165 s5166 => ?_
     obtain rfl := Option.some.inj h
     exact rN ⟨rfl, (((((Pg.refl p5121.z).st p5145 rfl).st p5152 rfl).st p5161 rfl).st p5165 rfl), s5166, g5157⟩
   rintro a5167 w5170 ⟨pg5168, s5169, g5171⟩
   have cx5172 := cx4634.ca g5171
   refine s1 pg5168.z (okAs s5169) rfl fun a5173 p5174 s5175 => ?_
   refine rN (thenN ?_)
   obtain rfl := Option.some.inj h
   exact wp_ret (ret1 p5174.z Try.results3 (rvT s5175) ⟨_, rfl, rfl, cx5172.g⟩)
end Go.Proofs.Ytjdalhedpgiimaa
