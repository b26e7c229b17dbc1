/-
  The Go functions strconv_Itoa, strconv_FormatInt, hist_words, strings_Builder_WriteString, strings_Builder_String, hist_Text, hist_Order, hist_Marks, hist_Results, tholelaw20_up, tholeref20_Same, tholeref20_Ints, tholelaw20_HistParts: each comes to its plain function. Conditions: where the plain function is some.
-/
import Derived.Test.YtbfndihcbogjfaaDoorK
set_option linter.unusedVariables false
namespace Go.Proofs.YtbfndihcbogjfaaDoor
open Go Go.RowKit Go.Proofs.YtbfndihcbogjfaaDoor.Gx
theorem c31 (L : List Nat) (w : World) (hL : ∀ b ∈ L, b < w.heap.size) (vT : TabA L w) (x0 : Int) (r : List UInt8) (h : strconv_Itoa x0 = some r) : Calls Tryd.prog 31 #[.int .i64 x0] w (fun e w' => ∃ v, e = .returned v ∧ v = .string ⟨r.toArray⟩ ∧ G [] w w') := by
 unfold strconv_Itoa at h
 split at h
 case isFalse => cases h
 rename_i hr
 obtain rfl := Option.some.inj h
 refine (Tryd.strconv_Itoa x0 hr.1 hr.2 w vT.var).mono ?_
 rintro e w' ⟨rfl, k, os, rfl⟩
 exact ⟨_, rfl, rfl, grow_g _ _ _⟩

theorem c30 (L : List Nat) (w : World) (hL : ∀ b ∈ L, b < w.heap.size) (vT : TabA L w) (x0 x1 : Int) (r : List UInt8) (h : strconv_FormatInt x0 x1 = some r) : Calls Tryd.prog 30 #[.int .i64 x0, .int .i64 x1] w (fun e w' => ∃ v, e = .returned v ∧ v = .string ⟨r.toArray⟩ ∧ G [] w w') := by
 unfold strconv_FormatInt at h
 split at h
 case isFalse => cases h
 rename_i hr
 obtain ⟨rfl, h0, h1⟩ := hr
 obtain rfl := Option.some.inj h
 refine (Tryd.strconv_FormatInt_10 x0 h0 h1 w vT.var).mono ?_
 rintro e w' ⟨rfl, k, os, rfl⟩
 exact ⟨_, rfl, rfl, grow_g _ _ _⟩

set_option maxHeartbeats 4000000 in
set_option maxRecDepth 100000 in
theorem c28 (L : List Nat) (w : World) (hL : ∀ b ∈ L, b < w.heap.size) (vT : TabA L w) (x0 : TEvent) (r : (List UInt8)) (h : hist_words x0 = some r) : Calls Tryd.prog 28 #[.agg (TEvent.C x0).toArray] w (fun e w' => ∃ v, e = .returned v ∧ v = .string ⟨r.toArray⟩ ∧ G [] w w') := by
 refine enterF Tryd.func28 rfl rfl fun a0 z0 A => ?_
 have s0_0 := A 0 (.agg (TEvent.C x0).toArray) rfl
 clear A
 have c0 : Cx [] w L w := ⟨G.refl _ _, hL⟩
 unfold hist_words at h
 refine wp_seq ?_
 refine reg ?_
 refine lS (oBox (l := TEvent.C x0) z0 s0_0 rfl rfl fun a1 w2 b3 p4 sp4 m5 g6 e7 => ?_)
 have f9 := c0.nw e7
 have cx8 := c0.al g6 m5
 refine s1 p4.z (okAs cst) rfl fun a10 p11 s12 => ?_
 refine rN (thenN ?_)
 refine wp_seq ?_
 refine wp_seq ?_
 refine reg ?_
 have s13 := p11.o sp4 rfl
 refine s1 p11.z (okFA (o' := 0) fo38_0 s13 rfl) rfl fun a14 p15 s16 => ?_
 refine s1 p15.z (okLd (j := 0) na3 s16 (m5.cl) rfl rfl) rfl fun a17 p18 s19 => ?_
 refine rN (thenN ?_)
 refine wp_block ?_
 refine wp_seq ?_
 refine reg ?_
 refine s1 p18.z (okEq s19 cst) rfl fun a20 p21 s22 => ?_
 refine s1 p21.z (okAs s22) rfl fun a23 p24 s25 => ?_
 refine rN (thenN ?_)
 have s26 := p24.o (p21.o (p18.o (p15.o s13 rfl) rfl) rfl) rfl
 have s27 := p24.o (p21.o (p18.o (p15.o s12 rfl) rfl) rfl) rfl
 have s28 := p24.o (p21.o s19 rfl) rfl
 have pg29 : Pg _ [1, 2, 3, 4, 5, 6] _ _ := (((((((Pg.refl z0).st p4 rfl).st p11 rfl).st p15 rfl).st p18 rfl).st p21 rfl).st p24 rfl)
 refine cnd s25 (fun hb30 => ?_) (fun hb30 => ?_)
 ·replace h := (ifP hb30).symm.trans h
  refine wp_seq ?_
  refine reg ?_
  refine s1 pg29.z (okAs cst) rfl fun a31 p32 s33 => ?_
  refine rN (thenN ?_)
  obtain rfl := Option.some.inj h
  exact wp_ret (blkR (thenR (ret1 p32.z Tryd.results28 (rvT s33) ⟨_, rfl, rfl, cx8.g⟩)))
 replace h := (ifN hb30).symm.trans h
 refine wp_seq ?_
 refine reg ?_
 refine s1 pg29.z (okEq s28 cst) rfl fun a34 p35 s36 => ?_
 refine s1 p35.z (okAs s36) rfl fun a37 p38 s39 => ?_
 refine rN (thenN ?_)
 refine cnd s39 (fun hb40 => ?_) (fun hb40 => ?_)
 ·replace h := (ifP hb40).symm.trans h
  refine wp_seq ?_
  have q41 := vT.mono (g6.tA (Nat.le_of_eq e7.symm))
  obtain ⟨t52, ht53, h⟩ := Option.bind_eq_some_iff.1 h
  obtain ⟨z61, hz62, h⟩ := Option.bind_eq_some_iff.1 h
  obtain ⟨z66, hz67, h⟩ := Option.bind_eq_some_iff.1 h
  obtain ⟨t83, ht84, h⟩ := Option.bind_eq_some_iff.1 h
  obtain ⟨z93, hz94, h⟩ := Option.bind_eq_some_iff.1 h
  refine regJ (fun a' w' => Z Tryd.f28.ntmps a' ∧ a'.eval (.tmp 2) = .string ⟨z93.toArray⟩ ∧ Bk w' b3 (TEvent.C x0) 38 ∧ Cx [] w (b3 :: L) w' ∧ Tr (b3 :: L) w2 (b3 :: L) w') ?_ ?_
  ·refine regH (n := 12) [(2, fun w' => Cl w' b3 3 [.int .i64 x0.note.kind]), (8, fun w' => Cl w' b3 4 [.int .i64 x0.note.value])] mixed rfl ?_
   have g101 := G.drew w2
   have cx102 := cx8.ca g101
   have s103 := p38.o (p35.o s26 rfl) rfl
   refine hTakeW (i := 0) rfl (by kernel_rfl) (by kernel_rfl) (by kernel_rfl) nrm (cond := fun _ => True) (.inl fun _ => trivial) p38.z (wN rfl) (fun _ _ => okFA (o' := 3) fo38_3 s103 rfl) trivial rfl fun a104 p105 sp105 => ?_
   refine hTakeW (i := 1) rfl (by kernel_rfl) (by kernel_rfl) (by kernel_rfl) nrm (cond := fun _ => True) (.inl fun _ => trivial) p105.z (wN rfl) (fun _ _ => okFA (o' := 3) fo36_0 sp105 rfl) trivial rfl fun a106 p107 sp107 => ?_
   have m108 := m5.g0 g101
   refine hTakeW (i := 2) rfl (by kernel_rfl) (by kernel_rfl) (by kernel_rfl) nrm (.inr (.head _)) p107.z (wN rfl) (fun _ h => okLd (j := 0) na3 sp107 h rfl rfl) (m108.clp rfl) rfl fun a109 p110 sp110 => ?_
   have s111 := p110.o (p107.o (p105.o s103 rfl) rfl) rfl
   refine hTakeW (i := 6) rfl (by kernel_rfl) (by kernel_rfl) (by kernel_rfl) nrm (cond := fun _ => True) (.inl fun _ => trivial) p110.z (wN rfl) (fun _ _ => okFA (o' := 3) fo38_3 s111 rfl) trivial rfl fun a112 p113 sp113 => ?_
   refine hTakeW (i := 7) rfl (by kernel_rfl) (by kernel_rfl) (by kernel_rfl) nrm (cond := fun _ => True) (.inl fun _ => trivial) p113.z (wN rfl) (fun _ _ => okFA (o' := 4) fo36_1 sp113 rfl) trivial rfl fun a114 p115 sp115 => ?_
   refine hTakeW (i := 8) rfl (by kernel_rfl) (by kernel_rfl) (by kernel_rfl) nrm (.inr (.tail _ (.head _))) p115.z (wN rfl) (fun _ h => okLd (j := 0) na2 sp115 h rfl rfl) (m108.clp rfl) rfl fun a116 p117 sp117 => ?_
   have s118 := p117.o (p115.o (p113.o sp110 rfl) rfl) rfl
   have q119 := q41.mono g101.t0
   refine hOne (i := 3) (by kernel_rfl) rfl (oCall p117.z Tryd.call31 (ag1 s118) (c31 (b3 :: L) w2.drew cx102.lt q119 _ _ ht53) rfl fun v123 a120 w121 hp124 p122 sp122 => ?_)
   obtain ⟨rfl, g125⟩ := hp124
   have cx126 := cx102.ca g125
   refine ⟨⟨.inl (by kernel_rfl), .inr fun h => h.g0 g125, trivial⟩, ?_⟩
   refine hTakeW (i := 4) rfl (by kernel_rfl) (by kernel_rfl) (by kernel_rfl) nrm (cond := fun _ => True) (.inl fun _ => trivial) p122.z (wN rfl) (fun _ _ => okSAdd cst sp122 hz62) trivial rfl fun a127 p128 sp128 => ?_
   refine hTakeW (i := 5) rfl (by kernel_rfl) (by kernel_rfl) (by kernel_rfl) nrm (cond := fun _ => True) (.inl fun _ => trivial) p128.z (wN rfl) (fun _ _ => okSAdd sp128 cst hz67) trivial rfl fun a129 p130 sp130 => ?_
   have s131 := p130.o (p128.o (p122.o sp117 rfl) rfl) rfl
   have q132 := q119.mono g125.t0
   refine hOne (i := 9) (by kernel_rfl) rfl (oCall p130.z Tryd.call30 (ag2 s131 cst) (c30 (b3 :: L) w121 cx126.lt q132 _ _ _ ht84) rfl fun v136 a133 w134 hp137 p135 sp135 => ?_)
   obtain ⟨rfl, g138⟩ := hp137
   have cx139 := cx126.ca g138
   refine ⟨⟨.inl (by kernel_rfl), .inl (by kernel_rfl), trivial⟩, ?_⟩
   have s140 := p135.o sp130 rfl
   refine hTakeW (i := 10) rfl (by kernel_rfl) (by kernel_rfl) (by kernel_rfl) nrm (cond := fun _ => True) (.inl fun _ => trivial) p135.z (wN rfl) (fun _ _ => okSAdd s140 sp135 hz94) trivial rfl fun a141 p142 sp142 => ?_
   refine hTakeW (i := 11) rfl (by kernel_rfl) (by kernel_rfl) (by kernel_rfl) nrm (cond := fun _ => True) (.inl fun _ => trivial) p142.z (wN rfl) (fun _ _ => okAs sp142) trivial rfl fun a143 p144 sp144 => ?_
   have m145 := (m108.g0 g125).g0 g138
   exact hDone (by kernel_rfl) ⟨rfl, p144.z, sp144, m145, cx139, ((g101.t0.trans g125.t0).trans g138.t0)⟩
  rintro a146 w147 ⟨z148, s149, m150, cx151, t152⟩
  refine thenN ?_
  obtain rfl := Option.some.inj h
  exact wp_ret (blkR (thenR (ret1 z148 Tryd.results28 (rvT s149) ⟨_, rfl, rfl, cx151.g⟩)))
 replace h := (ifN hb40).symm.trans h
 refine wp_seq ?_
 refine reg ?_
 have s153 := p38.o (p35.o s28 rfl) rfl
 refine s1 p38.z (okEq s153 cst) rfl fun a154 p155 s156 => ?_
 refine s1 p155.z (okAs s156) rfl fun a157 p158 s159 => ?_
 refine rN (thenN ?_)
 have s160 := p158.o (p155.o s153 rfl) rfl
 have pg161 : Pg _ [7, 8, 20, 21] _ _ := (((((Pg.refl pg29.z).st p35 rfl).st p38 rfl).st p155 rfl).st p158 rfl)
 refine cnd s159 (fun hb162 => ?_) (fun hb162 => ?_)
 ·replace h := (ifP hb162).symm.trans h
  refine wp_seq ?_
  have q163 := vT.mono (g6.tA (Nat.le_of_eq e7.symm))
  obtain ⟨t171, ht172, h⟩ := Option.bind_eq_some_iff.1 h
  obtain ⟨z180, hz181, h⟩ := Option.bind_eq_some_iff.1 h
  obtain ⟨z185, hz186, h⟩ := Option.bind_eq_some_iff.1 h
  obtain ⟨t199, ht200, h⟩ := Option.bind_eq_some_iff.1 h
  obtain ⟨z209, hz210, h⟩ := Option.bind_eq_some_iff.1 h
  refine regJ (fun a' w' => Z Tryd.f28.ntmps a' ∧ a'.eval (.tmp 2) = .string ⟨z209.toArray⟩ ∧ Bk w' b3 (TEvent.C x0) 38 ∧ Cx [] w (b3 :: L) w' ∧ Tr (b3 :: L) w2 (b3 :: L) w') ?_ ?_
  ·refine regH (n := 10) [(1, fun w' => Cl w' b3 5 [.int .i64 x0.value]), (6, fun w' => Cl w' b3 6 [.int .i64 x0.got])] mixed rfl ?_
   have g217 := G.drew w2
   have cx218 := cx8.ca g217
   have s219 := pg161.o s26 rfl
   refine hTakeW (i := 0) rfl (by kernel_rfl) (by kernel_rfl) (by kernel_rfl) nrm (cond := fun _ => True) (.inl fun _ => trivial) pg161.z (wN rfl) (fun _ _ => okFA (o' := 5) fo38_4 s219 rfl) trivial rfl fun a220 p221 sp221 => ?_
   have m222 := m5.g0 g217
   refine hTakeW (i := 1) rfl (by kernel_rfl) (by kernel_rfl) (by kernel_rfl) nrm (.inr (.head _)) p221.z (wN rfl) (fun _ h => okLd (j := 0) na3 sp221 h rfl rfl) (m222.clp rfl) rfl fun a223 p224 sp224 => ?_
   have s225 := p224.o (p221.o s219 rfl) rfl
   refine hTakeW (i := 5) rfl (by kernel_rfl) (by kernel_rfl) (by kernel_rfl) nrm (cond := fun _ => True) (.inl fun _ => trivial) p224.z (wN rfl) (fun _ _ => okFA (o' := 6) fo38_5 s225 rfl) trivial rfl fun a226 p227 sp227 => ?_
   refine hTakeW (i := 6) rfl (by kernel_rfl) (by kernel_rfl) (by kernel_rfl) nrm (.inr (.tail _ (.head _))) p227.z (wN rfl) (fun _ h => okLd (j := 0) na3 sp227 h rfl rfl) (m222.clp rfl) rfl fun a228 p229 sp229 => ?_
   have s230 := p229.o (p227.o sp224 rfl) rfl
   have q231 := q163.mono g217.t0
   refine hOne (i := 2) (by kernel_rfl) rfl (oCall p229.z Tryd.call31 (ag1 s230) (c31 (b3 :: L) w2.drew cx218.lt q231 _ _ ht172) rfl fun v235 a232 w233 hp236 p234 sp234 => ?_)
   obtain ⟨rfl, g237⟩ := hp236
   have cx238 := cx218.ca g237
   refine ⟨⟨.inl (by kernel_rfl), .inr fun h => h.g0 g237, trivial⟩, ?_⟩
   refine hTakeW (i := 3) rfl (by kernel_rfl) (by kernel_rfl) (by kernel_rfl) nrm (cond := fun _ => True) (.inl fun _ => trivial) p234.z (wN rfl) (fun _ _ => okSAdd cst sp234 hz181) trivial rfl fun a239 p240 sp240 => ?_
   refine hTakeW (i := 4) rfl (by kernel_rfl) (by kernel_rfl) (by kernel_rfl) nrm (cond := fun _ => True) (.inl fun _ => trivial) p240.z (wN rfl) (fun _ _ => okSAdd sp240 cst hz186) trivial rfl fun a241 p242 sp242 => ?_
   have s243 := p242.o (p240.o (p234.o sp229 rfl) rfl) rfl
   have q244 := q231.mono g237.t0
   refine hOne (i := 7) (by kernel_rfl) rfl (oCall p242.z Tryd.call31 (ag1 s243) (c31 (b3 :: L) w233 cx238.lt q244 _ _ ht200) rfl fun v248 a245 w246 hp249 p247 sp247 => ?_)
   obtain ⟨rfl, g250⟩ := hp249
   have cx251 := cx238.ca g250
   refine ⟨⟨.inl (by kernel_rfl), .inl (by kernel_rfl), trivial⟩, ?_⟩
   have s252 := p247.o sp242 rfl
   refine hTakeW (i := 8) rfl (by kernel_rfl) (by kernel_rfl) (by kernel_rfl) nrm (cond := fun _ => True) (.inl fun _ => trivial) p247.z (wN rfl) (fun _ _ => okSAdd s252 sp247 hz210) trivial rfl fun a253 p254 sp254 => ?_
   refine hTakeW (i := 9) rfl (by kernel_rfl) (by kernel_rfl) (by kernel_rfl) nrm (cond := fun _ => True) (.inl fun _ => trivial) p254.z (wN rfl) (fun _ _ => okAs sp254) trivial rfl fun a255 p256 sp256 => ?_
   have m257 := (m222.g0 g237).g0 g250
   exact hDone (by kernel_rfl) ⟨rfl, p256.z, sp256, m257, cx251, ((g217.t0.trans g237.t0).trans g250.t0)⟩
  rintro a258 w259 ⟨z260, s261, m262, cx263, t264⟩
  refine thenN ?_
  obtain rfl := Option.some.inj h
  exact wp_ret (blkR (thenR (ret1 z260 Tryd.results28 (rvT s261) ⟨_, rfl, rfl, cx263.g⟩)))
 replace h := (ifN hb162).symm.trans h
 refine wp_seq ?_
 refine reg ?_
 refine s1 pg161.z (okEq s160 cst) rfl fun a265 p266 s267 => ?_
 refine s1 p266.z (okAs s267) rfl fun a268 p269 s270 => ?_
 refine rN (thenN ?_)
 refine cnd s270 (fun hb271 => ?_) (fun hb271 => ?_)
 ·replace h := (ifP hb271).symm.trans h
  refine wp_seq ?_
  refine reg ?_
  refine s1 p269.z (okAs cst) rfl fun a272 p273 s274 => ?_
  refine rN (thenN ?_)
  obtain rfl := Option.some.inj h
  exact wp_ret (blkR (thenR (ret1 p273.z Tryd.results28 (rvT s274) ⟨_, rfl, rfl, cx8.g⟩)))
 replace h := (ifN hb271).symm.trans h
 refine wp_skip (blkN (thenN ?_))
 refine wp_seq ?_
 refine reg ?_
 refine s1 p269.z (okAs cst) rfl fun a275 p276 s277 => ?_
 refine rN (thenN ?_)
 obtain rfl := Option.some.inj h
 exact wp_ret (ret1 p276.z Tryd.results28 (rvT s277) ⟨_, rfl, rfl, cx8.g⟩)





set_option maxHeartbeats 4000000 in
set_option maxRecDepth 100000 in
theorem c20 (k : Nat) (L : List Nat) (w : World) (hL : ∀ b ∈ L, b < w.heap.size) (vT : TabA L w) (x0 : List TEvent) (h0 : Value) (qh0 : RdS KTEvent L w h0 x0) (r : (List UInt8)) (h : hist_Text k x0 = some r) : Calls Tryd.prog 20 #[h0] w (fun e w' => ∃ v, e = .returned v ∧ v = .string ⟨r.toArray⟩ ∧ G [] w w') := by
 refine enterF Tryd.func20 rfl rfl fun a0 z0 A => ?_
 have s0_0 := A 0 (h0) rfl
 clear A
 have c0 : Cx [] w L w := ⟨G.refl _ _, hL⟩
 unfold hist_Text at h
 refine wp_seq ?_
 refine reg ?_
 refine s1 z0 (okAs cst) rfl fun a1 p2 s3 => ?_
 refine rN (thenN ?_)
 refine wp_seq ?_
 refine reg ?_
 refine lS (oAlloc zv68 p2.z rfl fun a4 w5 b6 p7 sp7 m8 g9 e10 => ?_)
 have f12 := c0.nw e10
 have cx11 := c0.al g9 m8
 have m13 := Bld.new m8
 refine rN (thenN ?_)
 refine wp_seq ?_
 refine wp_seq ?_
 refine reg ?_
 have s14 := p7.o (p2.o s0_0 rfl) rfl
 refine s1 p7.z (okMv s14) rfl fun a15 p16 s17 => ?_
 have q18 := qh0.mono (g9.tA (Nat.le_of_eq e10.symm))
 refine s1 p16.z (okLenR Tryd.underlying22 s17 q18) rfl fun a19 p20 s21 => ?_
 refine s1 p20.z (okMv cst) rfl fun a22 p23 s24 => ?_
 refine rN (thenN ?_)
 refine wp_block ?_
 obtain ⟨o27, ho28, h⟩ := Option.bind_eq_some_iff.1 h
 have s31 := p23.o (p20.o (p16.o (p7.o s3 rfl) rfl) rfl) rfl
 have s32 := p23.o (p20.o (p16.o sp7 rfl) rfl) rfl
 have s33 := p23.o (p20.o s17 rfl) rfl
 have s34 := p23.o s21 rfl
 have q35 := vT.mono (g9.tA (Nat.le_of_eq e10.symm))
 refine loopX (I := (fun k' a' w' => ∃ i25 i26 h29, Z Tryd.f20.ntmps a' ∧ a'.eval (.tmp 2) = .string ⟨[].toArray⟩ ∧ a'.eval (.tmp 3) = ptr b6 0 ∧ a'.eval (.tmp 7) = h0 ∧ a'.eval (.tmp 8) = .int .i64 (x0.length : Int) ∧ a'.eval (.tmp 9) = .int .i64 i26 ∧ Bld w' b6 h29 68 ∧ RdS KTEvent (ownB h29 ++ (b6 :: L)) w' h0 x0 ∧ OwnS (KInt .u8) 5 (ownB h29 ++ (b6 :: L)) w' h29 i25 ∧ TabA (ownB h29 ++ (b6 :: L)) w' ∧ Cx [] w (ownB h29 ++ (b6 :: L)) w' ∧ (∀ x ∈ ownB h29, x ∉ L) ∧ (∀ x ∈ ownB h29, x ∈ [] ∨ w.heap.size ≤ x) ∧ b6 ∉ ownB h29 ∧ hist_Text.l0 x0 k' i25 i26 = some o27)) 0 (fun a' w' => ∃ h30, Z Tryd.f20.ntmps a' ∧ a'.eval (.tmp 2) = .string ⟨[].toArray⟩ ∧ a'.eval (.tmp 3) = ptr b6 0 ∧ Bld w' b6 h30 68 ∧ OwnS (KInt .u8) 5 (ownB h30 ++ (b6 :: L)) w' h30 o27 ∧ TabA (ownB h30 ++ (b6 :: L)) w' ∧ Cx [] w (ownB h30 ++ (b6 :: L)) w' ∧ (∀ x ∈ ownB h30, x ∉ L) ∧ (∀ x ∈ ownB h30, x ∈ [] ∨ w.heap.size ≤ x) ∧ b6 ∉ ownB h30) ⟨[], 0, (.slice none 0 0), p23.z, s31, s32, s33, s34, s24, m13, (q18.mono ((Tr.refl _ _).sub (fun i h => (List.mem_append.1 h).elim (fun h => nilO h) (fun h => h)))), OwnS.nil, (q35.mono ((Tr.refl _ _).sub (fun i h => (List.mem_append.1 h).elim (fun h => nilO h) (fun h => h)))), (cx11.sub (fun i h => (List.mem_append.1 h).elim (fun h => nilO h) (fun h => h))), (fun _ h => nilO h), (fun _ h => nilO h), (fun h => nilO h), ho28⟩ ?_ ?_
 ·have oh50 := h; clear h ho28
  rintro k36 a37 w38 ⟨i25, i26, h29, z39, s40, s41, s42, s43, s44, m45, q46, q47, q48, cx49, n51, n52, n53, h⟩
  obtain _ | k := k36
  case zero => cases h
  rw [hist_Text.l0] at h
  refine wp_seq ?_
  refine reg ?_
  refine s1 z39 (okLt s44 s43) rfl fun a54 p55 s56 => ?_
  refine rN (thenN ?_)
  refine wp_seq ?_
  refine cnd s56 (fun hb57 => ?_) (fun hb57 => ?_)
  ·replace h := (ifP hb57).symm.trans h
   refine wp_skip (thenN ?_)
   refine wp_seq ?_
   refine wp_block ?_
   refine wp_seq ?_
   refine reg ?_
   have s58 := p55.o s42 rfl
   have s59 := p55.o s44 rfl
   obtain ⟨y60, hy61, h⟩ := Option.bind_eq_some_iff.1 h
   obtain ⟨b62, o63, cs64, r66, e67, nb68, k65⟩ := q46.at_ hy61
   obtain rfl := r66
   refine s1 p55.z (k65 Tryd.underlying22 Tryd.sizeOf38 s58 s59 _) rfl fun a69 p70 s71 => ?_
   refine s1 p70.z (okLdA ag38 s71 e67 rfl rfl whole) rfl fun a72 p73 s74 => ?_
   refine lS (oAlloc zv38 p73.z rfl fun a75 w76 b77 p78 sp78 m79 g80 e81 => ?_)
   have f83 := cx49.nw e81
   have cx82 := cx49.al g80 m79
   have s84 := p78.o s74 rfl
   refine lS (oStoW (cs := TEvent.C y60) p78.z sp78 s84 m79 Tryd.sizeOf38 rfl (TEvent.C_one _) rfl fun w85 m86 g87 => ?_)
   have cx88 := cx82.st g87 f83
   refine rN (thenN ?_)
   refine wp_seq ?_
   refine reg ?_
   refine s1 p78.z (okLdA ag38 sp78 (m86.cl) rfl rfl whole) rfl fun a89 p90 s91 => ?_
   have q92 := q48.mono ((g80.tA (Nat.le_of_eq e81.symm)).trans (g87.t1 (.head _)))
   obtain ⟨t93, ht94, h⟩ := Option.bind_eq_some_iff.1 h
   refine lS (oCall p90.z Tryd.call28 (ag1 s91) (c28 (b77 :: (ownB h29 ++ (b6 :: L))) w85 cx88.lt q92 _ _ ht94) rfl fun v98 a95 w96 hp99 p97 sp97 => ?_)
   obtain ⟨rfl, g100⟩ := hp99
   have cx101 := cx88.ca g100
   refine s1 p97.z (okAs sp97) rfl fun a102 p103 s104 => ?_
   refine rN (thenN ?_)
   refine wp_seq ?_
   refine reg ?_
   refine s1 p103.z (okMv s104) rfl fun a105 p106 s107 => ?_
   refine s1 p106.z (okStrNe s107 cst) rfl fun a108 p109 s110 => ?_
   refine rN (thenN ?_)
   have s111 := p109.o (p106.o (p103.o (p97.o (p90.o (p78.o (p73.o (p70.o s58 rfl) rfl) rfl) rfl) rfl) rfl) rfl) rfl
   have s112 := p109.o (p106.o (p103.o (p97.o (p90.o (p78.o (p73.o (p70.o s59 rfl) rfl) rfl) rfl) rfl) rfl) rfl) rfl
   have s113 := p109.o (p106.o (p103.o (p97.o (p90.o (p78.o (p73.o (p70.o s56 rfl) rfl) rfl) rfl) rfl) rfl) rfl) rfl
   have s114 := p109.o (p106.o (p103.o (p97.o (p90.o (p78.o (p73.o s71 rfl) rfl) rfl) rfl) rfl) rfl) rfl
   have s115 := p109.o (p106.o (p103.o (p97.o (p90.o s84 rfl) rfl) rfl) rfl) rfl
   have s116 := p109.o (p106.o (p103.o (p97.o (p90.o sp78 rfl) rfl) rfl) rfl) rfl
   have s117 := p109.o (p106.o (p103.o (p97.o s91 rfl) rfl) rfl) rfl
   have s118 := p109.o (p106.o (p103.o sp97 rfl) rfl) rfl
   have s119 := p109.o (p106.o s104 rfl) rfl
   have s120 := p109.o s107 rfl
   have pg121 : Pg _ [5, 6, 10, 11, 12, 13, 14, 15, 16] _ _ := ((((((((((Pg.refl z39).st p55 rfl).st p70 rfl).st p73 rfl).st p78 rfl).st p90 rfl).st p97 rfl).st p103 rfl).st p106 rfl).st p109 rfl)
   refine cnd s110 (fun hb122 => ?_) (fun hb122 => ?_)
   ·replace h := (ifP hb122).symm.trans h
    have q123 := q46.mono (((g80.tA (Nat.le_of_eq e81.symm)).trans (g87.t1 (.head _))).trans g100.t0)
    have q124 := ((q47.t0 (g80.tA (Nat.le_of_eq e81.symm)) g80).t1 (g87.t1 (.head _)) g87 (q47.nb e81)).t0 g100.t0 g100
    have q125 := q92.mono g100.t0
    obtain ⟨t133, ht134, h⟩ := Option.bind_eq_some_iff.1 h
    obtain ⟨z142, hz143, h⟩ := Option.bind_eq_some_iff.1 h
    obtain ⟨t156, ht157, h⟩ := Option.bind_eq_some_iff.1 h
    obtain ⟨z166, hz167, h⟩ := Option.bind_eq_some_iff.1 h
    obtain ⟨z171, hz172, h⟩ := Option.bind_eq_some_iff.1 h
    obtain ⟨z181, hz182, h⟩ := Option.bind_eq_some_iff.1 h
    obtain ⟨z186, hz187, h⟩ := Option.bind_eq_some_iff.1 h
    obtain ⟨t195, ht196, h⟩ := Option.bind_eq_some_iff.1 h
    have s215 := pg121.o s40 rfl
    have s216 := pg121.o s41 rfl
    have s217 := pg121.o s43 rfl
    have m218 := ((m45.g0 g80).g1 g87 (m45.ne e81)).g0 g100
    have m219 := m86.g0 g100
    refine regJ (fun a' w' => ∃ h203, Z Tryd.f20.ntmps a' ∧ a'.eval (.tmp 2) = .string ⟨[].toArray⟩ ∧ a'.eval (.tmp 3) = ptr b6 0 ∧ a'.eval (.tmp 7) = h0 ∧ a'.eval (.tmp 8) = .int .i64 (x0.length : Int) ∧ a'.eval (.tmp 9) = .int .i64 i26 ∧ a'.eval (.tmp 10) = .bool (decide (i26 < (x0.length : Int))) ∧ a'.eval (.tmp 11) = ptr b62 o63 ∧ a'.eval (.tmp 12) = .agg (TEvent.C y60).toArray ∧ a'.eval (.tmp 5) = ptr b77 0 ∧ a'.eval (.tmp 13) = .agg (TEvent.C y60).toArray ∧ a'.eval (.tmp 14) = .string ⟨t93.toArray⟩ ∧ a'.eval (.tmp 6) = .string ⟨t93.toArray⟩ ∧ a'.eval (.tmp 15) = .string ⟨t93.toArray⟩ ∧ a'.eval (.tmp 16) = .bool (t93 != []) ∧ a'.eval (.tmp 17) = ptr b77 2 ∧ a'.eval (.tmp 18) = .int .i64 y60.now ∧ a'.eval (.tmp 19) = .string ⟨t133.toArray⟩ ∧ a'.eval (.tmp 20) = .string ⟨z142.toArray⟩ ∧ a'.eval (.tmp 21) = ptr b77 1 ∧ a'.eval (.tmp 22) = .int .i64 y60.thread ∧ a'.eval (.tmp 23) = .string ⟨t156.toArray⟩ ∧ a'.eval (.tmp 24) = .string ⟨z166.toArray⟩ ∧ a'.eval (.tmp 25) = .string ⟨z171.toArray⟩ ∧ a'.eval (.tmp 26) = .string ⟨t93.toArray⟩ ∧ a'.eval (.tmp 27) = .string ⟨z181.toArray⟩ ∧ a'.eval (.tmp 28) = .string ⟨z186.toArray⟩ ∧ Bld w' b6 h203 68 ∧ Bk w' b77 (TEvent.C y60) 38 ∧ OwnS (KInt .u8) 5 (ownB h203 ++ (b77 :: b6 :: L)) w' h203 t195.2.2.buf ∧ Cx [] w (ownB h203 ++ (b77 :: b6 :: L)) w' ∧ Tr (b77 :: (ownB h29 ++ (b6 :: L))) w96 (ownB h203 ++ (b77 :: b6 :: L)) w' ∧ (∀ x ∈ ownB h203, x ∉ L) ∧ (∀ x ∈ ownB h203, x ∈ [] ∨ w.heap.size ≤ x) ∧ b6 ∉ ownB h203 ∧ b77 ∉ ownB h203) ?_ ?_
    ·refine regH (n := 13) [(1, fun w' => Cl w' b77 2 [.int .i64 y60.now]), (5, fun w' => Cl w' b77 1 [.int .i64 y60.thread])] mixed rfl ?_
     have g220 := G.drew w96
     have cx221 := cx101.ca g220
     refine hTakeW (i := 0) rfl (by kernel_rfl) (by kernel_rfl) (by kernel_rfl) nrm (cond := fun _ => True) (.inl fun _ => trivial) pg121.z (wN rfl) (fun _ _ => okFA (o' := 2) fo38_2 s116 rfl) trivial rfl fun a222 p223 sp223 => ?_
     have m224 := m219.g0 g220
     refine hTakeW (i := 1) rfl (by kernel_rfl) (by kernel_rfl) (by kernel_rfl) nrm (.inr (.head _)) p223.z (wN rfl) (fun _ h => okLd (j := 0) na2 sp223 h rfl rfl) (m224.clp rfl) rfl fun a225 p226 sp226 => ?_
     have s227 := p226.o (p223.o s116 rfl) rfl
     refine hTakeW (i := 4) rfl (by kernel_rfl) (by kernel_rfl) (by kernel_rfl) nrm (cond := fun _ => True) (.inl fun _ => trivial) p226.z (wN rfl) (fun _ _ => okFA (o' := 1) fo38_1 s227 rfl) trivial rfl fun a228 p229 sp229 => ?_
     refine hTakeW (i := 5) rfl (by kernel_rfl) (by kernel_rfl) (by kernel_rfl) nrm (.inr (.tail _ (.head _))) p229.z (wN rfl) (fun _ h => okLd (j := 0) na3 sp229 h rfl rfl) (m224.clp rfl) rfl fun a230 p231 sp231 => ?_
     have s232 := p231.o (p229.o (p226.o (p223.o s119 rfl) rfl) rfl) rfl
     refine hTakeW (i := 9) rfl (by kernel_rfl) (by kernel_rfl) (by kernel_rfl) nrm (cond := fun _ => True) (.inl fun _ => trivial) p231.z (wN rfl) (fun _ _ => okMv s232) trivial rfl fun a233 p234 sp234 => ?_
     have s235 := p234.o (p231.o (p229.o sp226 rfl) rfl) rfl
     have q236 := q125.mono g220.t0
     refine hOne (i := 2) (by kernel_rfl) rfl (oCall p234.z Tryd.call30 (ag2 s235 cst) (c30 (b77 :: (ownB h29 ++ (b6 :: L))) w96.drew cx221.lt q236 _ _ _ ht134) rfl fun v240 a237 w238 hp241 p239 sp239 => ?_)
     obtain ⟨rfl, g242⟩ := hp241
     have cx243 := cx221.ca g242
     refine ⟨⟨.inl (by kernel_rfl), .inr fun h => h.g0 g242, trivial⟩, ?_⟩
     refine hTakeW (i := 3) rfl (by kernel_rfl) (by kernel_rfl) (by kernel_rfl) nrm (cond := fun _ => True) (.inl fun _ => trivial) p239.z (wN rfl) (fun _ _ => okSAdd sp239 cst hz143) trivial rfl fun a244 p245 sp245 => ?_
     have s246 := p245.o (p239.o (p234.o sp231 rfl) rfl) rfl
     have q247 := q236.mono g242.t0
     refine hOne (i := 6) (by kernel_rfl) rfl (oCall p245.z Tryd.call31 (ag1 s246) (c31 (b77 :: (ownB h29 ++ (b6 :: L))) w238 cx243.lt q247 _ _ ht157) rfl fun v251 a248 w249 hp252 p250 sp250 => ?_)
     obtain ⟨rfl, g253⟩ := hp252
     have cx254 := cx243.ca g253
     refine ⟨⟨.inl (by kernel_rfl), .inl (by kernel_rfl), trivial⟩, ?_⟩
     have s255 := p250.o sp245 rfl
     refine hTakeW (i := 7) rfl (by kernel_rfl) (by kernel_rfl) (by kernel_rfl) nrm (cond := fun _ => True) (.inl fun _ => trivial) p250.z (wN rfl) (fun _ _ => okSAdd s255 sp250 hz167) trivial rfl fun a256 p257 sp257 => ?_
     refine hTakeW (i := 8) rfl (by kernel_rfl) (by kernel_rfl) (by kernel_rfl) nrm (cond := fun _ => True) (.inl fun _ => trivial) p257.z (wN rfl) (fun _ _ => okSAdd sp257 cst hz172) trivial rfl fun a258 p259 sp259 => ?_
     have s260 := p259.o (p257.o (p250.o (p245.o (p239.o sp234 rfl) rfl) rfl) rfl) rfl
     refine hTakeW (i := 10) rfl (by kernel_rfl) (by kernel_rfl) (by kernel_rfl) nrm (cond := fun _ => True) (.inl fun _ => trivial) p259.z (wN rfl) (fun _ _ => okSAdd sp259 s260 hz182) trivial rfl fun a261 p262 sp262 => ?_
     refine hTakeW (i := 11) rfl (by kernel_rfl) (by kernel_rfl) (by kernel_rfl) nrm (cond := fun _ => True) (.inl fun _ => trivial) p262.z (wN rfl) (fun _ _ => okSAdd sp262 cst hz187) trivial rfl fun a263 p264 sp264 => ?_
     have s265 := p264.o (p262.o (p259.o (p257.o (p250.o (p245.o (p239.o (p234.o (p231.o (p229.o (p226.o (p223.o s216 rfl) rfl) rfl) rfl) rfl) rfl) rfl) rfl) rfl) rfl) rfl) rfl
     have m266 := ((m218.g0 g220).g0 g242).g0 g253
     have q267 := ((q124.t0 g220.t0 g220).t0 g242.t0 g242).t0 g253.t0 g253
     have m268 := (m224.g0 g242).g0 g253
     refine hOne (i := 12) (by kernel_rfl) rfl (oCall p264.z Tryd.call29 (ag2 s265 sp264) (c29 (b77 :: L) w249 (⟨i25⟩ : Tstrings_Builder) b6 h29 z186 (fun i h => cx254.lt i ((List.mem_cons.1 h).elim (fun e => e ▸ (.tail _ (List.mem_append_right _ (.head _)))) (fun h => (List.mem_append.1 h).elim (fun h => (.tail _ (List.mem_append_left _ h))) (fun h => (List.mem_cons.1 h).elim (fun e => e ▸ (.head _)) (fun h => (.tail _ (List.mem_append_right _ (.tail _ h)))))))) (sepC (show ∀ x ∈ [b6], x ∉ (ownB h29 ++ (b77 :: L)) from (in1 (na n53 (nc (m45.ne e81) (fun h => Nat.lt_irrefl _ (Nat.lt_of_lt_of_le (hL _ h) f12)))))) (sepC (show ∀ x ∈ ownB h29, x ∉ (b77 :: L) from (fun x hx => (nc (nbo (q47.nb e81) hx) (n51 x hx)))) sepN)) m266 (q267.sub (fun i h => (List.mem_cons.1 h).elim (fun e => e ▸ (.tail _ (List.mem_append_right _ (.head _)))) (fun h => (List.mem_append.1 h).elim (fun h => (.tail _ (List.mem_append_left _ h))) (fun h => (List.mem_cons.1 h).elim (fun e => e ▸ (.head _)) (fun h => (.tail _ (List.mem_append_right _ (.tail _ h)))))))) _ ht196) rfl fun v272 a269 w270 hp273 p271 sp271 => ?_)
     obtain ⟨h274, h275, rfl, q276, m277, q278, D279, f282, lt280, g281⟩ := hp273
     have hs283 : ∀ i ∈ (b6 :: (ownB h29 ++ [])), i ∈ [] ∨ w.heap.size ≤ i := (memC (.inr f12) (memA n52 memN))
     have hs284 : ∀ i ∈ (b6 :: (ownB h29 ++ [])), i ∈ (b77 :: (ownB h29 ++ (b6 :: L))) := (memC (.tail _ (List.mem_append_right _ (.head _))) (memA (fun _ h => (.tail _ (List.mem_append_left _ h))) memN))
     have t285 : Tr (b77 :: (ownB h29 ++ (b6 :: L))) w249 (b6 :: (ownB h275 ++ (b77 :: L))) w270 := G.tC g281 hs284 (memC (.inl (.tail _ (List.mem_append_right _ (.head _)))) (memA (frL f282 hs284) (fun i h => .inl ((List.mem_cons.1 h).elim (fun e => e ▸ (.head _)) (fun h => (.tail _ (List.mem_append_right _ (.tail _ h))))))))
     have cx286 := cx254.gs g281 hs283 lt280
     refine ⟨⟨.inl (by kernel_rfl), .inl (by kernel_rfl), trivial⟩, ?_⟩
     have s287 := p271.o (p264.o (p262.o (p259.o (p257.o (p250.o (p245.o (p239.o (p234.o (p231.o (p229.o (p226.o (p223.o s215 rfl) rfl) rfl) rfl) rfl) rfl) rfl) rfl) rfl) rfl) rfl) rfl) rfl
     have s288 := p271.o s265 rfl
     have s289 := p271.o (p264.o (p262.o (p259.o (p257.o (p250.o (p245.o (p239.o (p234.o (p231.o (p229.o (p226.o (p223.o s111 rfl) rfl) rfl) rfl) rfl) rfl) rfl) rfl) rfl) rfl) rfl) rfl) rfl
     have s290 := p271.o (p264.o (p262.o (p259.o (p257.o (p250.o (p245.o (p239.o (p234.o (p231.o (p229.o (p226.o (p223.o s217 rfl) rfl) rfl) rfl) rfl) rfl) rfl) rfl) rfl) rfl) rfl) rfl) rfl
     have s291 := p271.o (p264.o (p262.o (p259.o (p257.o (p250.o (p245.o (p239.o (p234.o (p231.o (p229.o (p226.o (p223.o s112 rfl) rfl) rfl) rfl) rfl) rfl) rfl) rfl) rfl) rfl) rfl) rfl) rfl
     have s292 := p271.o (p264.o (p262.o (p259.o (p257.o (p250.o (p245.o (p239.o (p234.o (p231.o (p229.o (p226.o (p223.o s113 rfl) rfl) rfl) rfl) rfl) rfl) rfl) rfl) rfl) rfl) rfl) rfl) rfl
     have s293 := p271.o (p264.o (p262.o (p259.o (p257.o (p250.o (p245.o (p239.o (p234.o (p231.o (p229.o (p226.o (p223.o s114 rfl) rfl) rfl) rfl) rfl) rfl) rfl) rfl) rfl) rfl) rfl) rfl) rfl
     have s294 := p271.o (p264.o (p262.o (p259.o (p257.o (p250.o (p245.o (p239.o (p234.o (p231.o (p229.o (p226.o (p223.o s115 rfl) rfl) rfl) rfl) rfl) rfl) rfl) rfl) rfl) rfl) rfl) rfl) rfl
     have s295 := p271.o (p264.o (p262.o (p259.o (p257.o (p250.o (p245.o (p239.o (p234.o (p231.o (p229.o s227 rfl) rfl) rfl) rfl) rfl) rfl) rfl) rfl) rfl) rfl) rfl
     have s296 := p271.o (p264.o (p262.o (p259.o (p257.o (p250.o (p245.o (p239.o (p234.o (p231.o (p229.o (p226.o (p223.o s117 rfl) rfl) rfl) rfl) rfl) rfl) rfl) rfl) rfl) rfl) rfl) rfl) rfl
     have s297 := p271.o (p264.o (p262.o (p259.o (p257.o (p250.o (p245.o (p239.o (p234.o (p231.o (p229.o (p226.o (p223.o s118 rfl) rfl) rfl) rfl) rfl) rfl) rfl) rfl) rfl) rfl) rfl) rfl) rfl
     have s298 := p271.o (p264.o (p262.o (p259.o (p257.o (p250.o (p245.o (p239.o (p234.o s232 rfl) rfl) rfl) rfl) rfl) rfl) rfl) rfl) rfl
     have s299 := p271.o (p264.o (p262.o (p259.o (p257.o (p250.o (p245.o (p239.o (p234.o (p231.o (p229.o (p226.o (p223.o s120 rfl) rfl) rfl) rfl) rfl) rfl) rfl) rfl) rfl) rfl) rfl) rfl) rfl
     have s300 := p271.o (p264.o (p262.o (p259.o (p257.o (p250.o (p245.o (p239.o (p234.o (p231.o (p229.o (p226.o (p223.o s110 rfl) rfl) rfl) rfl) rfl) rfl) rfl) rfl) rfl) rfl) rfl) rfl) rfl
     have s301 := p271.o (p264.o (p262.o (p259.o (p257.o (p250.o (p245.o (p239.o (p234.o (p231.o (p229.o (p226.o sp223 rfl) rfl) rfl) rfl) rfl) rfl) rfl) rfl) rfl) rfl) rfl) rfl
     have s302 := p271.o (p264.o (p262.o (p259.o (p257.o (p250.o (p245.o (p239.o s235 rfl) rfl) rfl) rfl) rfl) rfl) rfl) rfl
     have s303 := p271.o (p264.o (p262.o (p259.o (p257.o (p250.o (p245.o sp239 rfl) rfl) rfl) rfl) rfl) rfl) rfl
     have s304 := p271.o (p264.o (p262.o (p259.o (p257.o s255 rfl) rfl) rfl) rfl) rfl
     have s305 := p271.o (p264.o (p262.o (p259.o (p257.o (p250.o (p245.o (p239.o (p234.o (p231.o sp229 rfl) rfl) rfl) rfl) rfl) rfl) rfl) rfl) rfl) rfl
     have s306 := p271.o (p264.o (p262.o (p259.o (p257.o (p250.o s246 rfl) rfl) rfl) rfl) rfl) rfl
     have s307 := p271.o (p264.o (p262.o (p259.o (p257.o sp250 rfl) rfl) rfl) rfl) rfl
     have s308 := p271.o (p264.o (p262.o (p259.o sp257 rfl) rfl) rfl) rfl
     have s309 := p271.o (p264.o (p262.o sp259 rfl) rfl) rfl
     have s310 := p271.o (p264.o (p262.o s260 rfl) rfl) rfl
     have s311 := p271.o (p264.o sp262 rfl) rfl
     have s312 := p271.o sp264 rfl
     have m313 := m268.g g281 (nc (m45.ne e81).symm (na (q47.nb e81) not_nil))
     exact hDone (by kernel_rfl) ⟨rfl, h275, p271.z, s287, s288, s289, s290, s291, s292, s293, s294, s295, s296, s297, s298, s299, s300, s301, s302, s303, s304, s305, s306, s307, s308, s309, s310, s311, s312, m277, m313, (q278.sub (fun i h => (List.mem_append.1 h).elim (fun h => (.tail _ (List.mem_append_left _ h))) (fun h => (List.mem_cons.1 h).elim (fun e => e ▸ (.tail _ (List.mem_append_right _ (.head _)))) (fun h => (List.mem_cons.1 h).elim (fun e => e ▸ (.head _)) (fun h => (.tail _ (List.mem_append_right _ (.tail _ h)))))))), (cx286.sub (fun i h => (List.mem_append.1 h).elim (fun h => (.tail _ (List.mem_append_left _ h))) (fun h => (List.mem_cons.1 h).elim (fun e => e ▸ (.tail _ (List.mem_append_right _ (.head _)))) (fun h => (List.mem_cons.1 h).elim (fun e => e ▸ (.head _)) (fun h => (.tail _ (List.mem_append_right _ (.tail _ h)))))))), ((((g220.t0.trans g242.t0).trans g253.t0).trans t285).sub (fun i h => (List.mem_append.1 h).elim (fun h => (.tail _ (List.mem_append_left _ h))) (fun h => (List.mem_cons.1 h).elim (fun e => e ▸ (.tail _ (List.mem_append_right _ (.head _)))) (fun h => (List.mem_cons.1 h).elim (fun e => e ▸ (.head _)) (fun h => (.tail _ (List.mem_append_right _ (.tail _ h)))))))), (fun x hx hl => D279.dl (i := 1) rfl x hx (.tail _ hl)), (frC f282 hs283 cx254.g.sz), (D279.bo (i := 0) (j := 1) rfl rfl rfl), (fun hb => D279.dl (i := 1) rfl _ hb (.head _))⟩
    rintro a314 w315 ⟨h317, z316, s318, s319, s320, s321, s322, s323, s324, s325, s326, s327, s328, s329, s330, s331, s332, s333, s334, s335, s336, s337, s338, s339, s340, s341, s342, s343, m344, m345, q346, cx347, t348, n349, n350, n351, n352⟩
    refine blkN (thenN ?_)
    refine reg ?_
    refine s1 z316 (okAdd s322 cst) rfl fun a353 p354 s355 => ?_
    refine s1 p354.z (okMv s355) rfl fun a356 p357 s358 => ?_
    have s359 := p357.o (p354.o s318 rfl) rfl
    have s360 := p357.o (p354.o s319 rfl) rfl
    have s361 := p357.o (p354.o s320 rfl) rfl
    have s362 := p357.o (p354.o s321 rfl) rfl
    have q363 := q123.mono t348
    have q364 := q125.mono t348
    exact rN (thenN ⟨k, Nat.lt_succ_self k, t195.2.2.buf, (w64 (i26 + 1)), h317, p357.z, s359, s360, s361, s362, s358, m344, (q363.mono ((Tr.refl _ _).sub (fun i h => (List.mem_append.1 h).elim (fun h => (List.mem_append_left _ h)) (fun h => (List.mem_append_right _ (.tail _ h)))))), (q346.sub (fun i h => (List.mem_append.1 h).elim (fun h => (List.mem_append_left _ h)) (fun h => (List.mem_append_right _ (.tail _ h))))), (q364.mono ((Tr.refl _ _).sub (fun i h => (List.mem_append.1 h).elim (fun h => (List.mem_append_left _ h)) (fun h => (List.mem_append_right _ (.tail _ h)))))), (cx347.sub (fun i h => (List.mem_append.1 h).elim (fun h => (List.mem_append_left _ h)) (fun h => (List.mem_append_right _ (.tail _ h))))), n349, n350, n351, h⟩)
   replace h := (ifN hb122).symm.trans h
   refine wp_skip (blkN (thenN ?_))
   refine reg ?_
   refine s1 pg121.z (okAdd s112 cst) rfl fun a365 p366 s367 => ?_
   refine s1 p366.z (okMv s367) rfl fun a368 p369 s370 => ?_
   have s371 := p369.o (p366.o (pg121.o s40 rfl) rfl) rfl
   have s372 := p369.o (p366.o (pg121.o s41 rfl) rfl) rfl
   have s373 := p369.o (p366.o s111 rfl) rfl
   have s374 := p369.o (p366.o (pg121.o s43 rfl) rfl) rfl
   have m375 := ((m45.g0 g80).g1 g87 (m45.ne e81)).g0 g100
   have q376 := q46.mono (((g80.tA (Nat.le_of_eq e81.symm)).trans (g87.t1 (.head _))).trans g100.t0)
   have q377 := ((q47.t0 (g80.tA (Nat.le_of_eq e81.symm)) g80).t1 (g87.t1 (.head _)) g87 (q47.nb e81)).t0 g100.t0 g100
   have q378 := q92.mono g100.t0
   exact rN (thenN ⟨k, Nat.lt_succ_self k, i25, (w64 (i26 + 1)), h29, p369.z, s371, s372, s373, s374, s370, m375, (q376.mono ((Tr.refl _ _).sub (fun i h => (.tail _ h)))), (q377.sub (fun i h => (.tail _ h))), (q378.mono ((Tr.refl _ _).sub (fun i h => (.tail _ h)))), (cx101.sub (fun i h => (.tail _ h))), n51, n52, n53, h⟩)
  replace h := (ifN hb57).symm.trans h
  obtain rfl := Option.some.inj h
  have s379 := p55.o s40 rfl
  have s380 := p55.o s41 rfl
  exact wp_exit (thenE (thenE (jqE ⟨h29, p55.z, s379, s380, m45, q47, q48, cx49, n51, n52, n53⟩)))
 clear ho28
 rintro a381 w382 ⟨h30, z383, s384, s385, m386, q387, q388, cx389, n390, n391, n392⟩
 refine blkE (thenN ?_)
 refine wp_seq ?_
 refine reg ?_
 obtain ⟨y393, hy394, h⟩ := Option.bind_eq_some_iff.1 h
 refine lS (oCall z383 Tryd.call32 (ag1 s385) (c32 m386 (q387) f12 (fun x hx => (n391 x hx).resolve_left List.not_mem_nil) n392 (z := y393) hy394) rfl fun v398 a395 w396 r399 p397 sp397 => ?_)
 obtain ⟨rfl, be402⟩ := r399
 have cx400 : Cx [] w L w396 := ⟨G.tb cx389.g be402, fun b h => Nat.lt_of_lt_of_le (hL b h) (G.tb cx389.g be402).sz⟩
 have q403 := qh0.mono cx400.g.t0
 refine s1 p397.z (okAs sp397) rfl fun a404 p405 s406 => ?_
 refine rN (thenN ?_)
 obtain rfl := Option.some.inj h
 exact wp_ret (ret1 p405.z Tryd.results20 (rvT s406) ⟨_, rfl, rfl, cx400.g⟩)

set_option maxHeartbeats 4000000 in
set_option maxRecDepth 100000 in
theorem c18 (k : Nat) (L : List Nat) (w : World) (hL : ∀ b ∈ L, b < w.heap.size) (x0 : List TEvent) (h0 : Value) (qh0 : RdS KTEvent L w h0 x0) (x1 : Int) (r : (List Int)) (h : hist_Order k x0 x1 = some r) : Calls Tryd.prog 18 #[h0, .int .i64 x1] w (fun e w' => ∃ v, e = .returned v ∧ RdS (KInt .i64) L w' v r ∧ G [] w w') := by
 refine enterF Tryd.func18 rfl rfl fun a0 z0 A => ?_
 have s0_0 := A 0 (h0) rfl
 have s0_1 := A 1 (.int .i64 x1) rfl
 clear A
 have c0 : Cx [] w L w := ⟨G.refl _ _, hL⟩
 unfold hist_Order at h
 refine wp_seq ?_
 refine reg ?_
 refine s1 z0 (okAs cst) rfl fun a1 p2 s3 => ?_
 refine rN (thenN ?_)
 refine wp_seq ?_
 refine reg ?_
 refine s1 p2.z (okAs cst) rfl fun a4 p5 s6 => ?_
 refine rN (thenN ?_)
 refine wp_seq ?_
 refine wp_seq ?_
 refine reg ?_
 have s7 := p5.o (p2.o s0_0 rfl) rfl
 refine s1 p5.z (okMv s7) rfl fun a8 p9 s10 => ?_
 refine s1 p9.z (okLenR Tryd.underlying22 s10 qh0) rfl fun a11 p12 s13 => ?_
 refine s1 p12.z (okMv cst) rfl fun a14 p15 s16 => ?_
 refine rN (thenN ?_)
 refine wp_block ?_
 obtain ⟨o19, ho20, h⟩ := Option.bind_eq_some_iff.1 h
 have s23 := p15.o (p12.o (p9.o (p5.o (p2.o s0_1 rfl) rfl) rfl) rfl) rfl
 have s24 := p15.o (p12.o (p9.o (p5.o s3 rfl) rfl) rfl) rfl
 have s25 := p15.o (p12.o (p9.o s6 rfl) rfl) rfl
 have s26 := p15.o (p12.o s10 rfl) rfl
 have s27 := p15.o s13 rfl
 refine loopX (I := (fun k' a' w' => ∃ i17 i18 h21, Z Tryd.f18.ntmps a' ∧ a'.eval (.tmp 1) = .int .i64 x1 ∧ a'.eval (.tmp 4) = .slice none 0 0 ∧ a'.eval (.tmp 5) = h21 ∧ a'.eval (.tmp 8) = h0 ∧ a'.eval (.tmp 9) = .int .i64 (x0.length : Int) ∧ a'.eval (.tmp 10) = .int .i64 i17 ∧ OwnS (KInt .i64) 3 (ownB h21 ++ L) w' h21 i18 ∧ RdS KTEvent (ownB h21 ++ L) w' h0 x0 ∧ Cx [] w (ownB h21 ++ L) w' ∧ (∀ x ∈ ownB h21, x ∉ L) ∧ (∀ x ∈ ownB h21, x ∈ [] ∨ w.heap.size ≤ x) ∧ hist_Order.l0 x0 x1 k' i17 i18 = some o19)) 0 (fun a' w' => ∃ h22, Z Tryd.f18.ntmps a' ∧ a'.eval (.tmp 4) = .slice none 0 0 ∧ a'.eval (.tmp 5) = h22 ∧ OwnS (KInt .i64) 3 (ownB h22 ++ L) w' h22 o19 ∧ Cx [] w (ownB h22 ++ L) w' ∧ (∀ x ∈ ownB h22, x ∉ L) ∧ (∀ x ∈ ownB h22, x ∈ [] ∨ w.heap.size ≤ x)) ⟨0, [], (.slice none 0 0), p15.z, s23, s24, s25, s26, s27, s16, OwnS.nil, (qh0.mono ((Tr.refl _ _).sub (fun i h => (List.mem_append.1 h).elim (fun h => nilO h) (fun h => h)))), (c0.sub (fun i h => (List.mem_append.1 h).elim (fun h => nilO h) (fun h => h))), (fun _ h => nilO h), (fun _ h => nilO h), ho20⟩ ?_ ?_
 ·have oh41 := h; clear h ho20
  rintro k28 a29 w30 ⟨i17, i18, h21, z31, s32, s33, s34, s35, s36, s37, q38, q39, cx40, n42, n43, h⟩
  obtain _ | k := k28
  case zero => cases h
  rw [hist_Order.l0] at h
  refine wp_seq ?_
  refine reg ?_
  refine s1 z31 (okLt s37 s36) rfl fun a44 p45 s46 => ?_
  refine rN (thenN ?_)
  refine wp_seq ?_
  refine cnd s46 (fun hb47 => ?_) (fun hb47 => ?_)
  ·replace h := (ifP hb47).symm.trans h
   refine wp_skip (thenN ?_)
   refine wp_seq ?_
   refine wp_block ?_
   refine wp_seq ?_
   refine reg ?_
   have s48 := p45.o s35 rfl
   have s49 := p45.o s37 rfl
   obtain ⟨y50, hy51, h⟩ := Option.bind_eq_some_iff.1 h
   obtain ⟨b52, o53, cs54, r56, e57, nb58, k55⟩ := q39.at_ hy51
   obtain rfl := r56
   refine s1 p45.z (k55 Tryd.underlying22 Tryd.sizeOf38 s48 s49 _) rfl fun a59 p60 s61 => ?_
   refine s1 p60.z (okLdA ag38 s61 e57 rfl rfl whole) rfl fun a62 p63 s64 => ?_
   refine lS (oAlloc zv38 p63.z rfl fun a65 w66 b67 p68 sp68 m69 g70 e71 => ?_)
   have f73 := cx40.nw e71
   have cx72 := cx40.al g70 m69
   have s74 := p68.o s64 rfl
   refine lS (oStoW (cs := TEvent.C y50) p68.z sp68 s74 m69 Tryd.sizeOf38 rfl (TEvent.C_one _) rfl fun w75 m76 g77 => ?_)
   have cx78 := cx72.st g77 f73
   refine rN (thenN ?_)
   refine wp_seq ?_
   refine reg ?_
   refine s1 p68.z (okFA (o' := 0) fo38_0 sp68 rfl) rfl fun a79 p80 s81 => ?_
   refine s1 p80.z (okLd (j := 0) na3 s81 (m76.cl) rfl rfl) rfl fun a82 p83 s84 => ?_
   refine s1 p83.z (okEq s84 cst) rfl fun a85 p86 s87 => ?_
   refine s1 p86.z (okMv s87) rfl fun a88 p89 s90 => ?_
   refine cutP 6 (fun a' => Pg Tryd.f18.ntmps [18, 19, 20, 21, 22, 23] a88 a' ∧ a'.eval (.tmp 23) = .bool ((y50.kind == 2) && (y50.note.kind == x1))) ?_ ?_
   ·rcases bf (y50.kind == 2) with hb91 | hb91
    ·have s92 := bv s90 hb91
     refine s1k p89.z rfl (yd p89.z rfl rfl s92) rfl fun a93 p94 s95 => ?_
     have s96 := p94.o s92 rfl
     refine s1k p94.z rfl (yd p94.z rfl rfl s96) rfl fun a97 p98 s99 => ?_
     have s100 := p98.o s96 rfl
     refine s1k p98.z rfl (yd p98.z rfl rfl s100) rfl fun a101 p102 s103 => ?_
     have s104 := p102.o s100 rfl
     refine s1k p102.z rfl (yd p102.z rfl rfl s104) rfl fun a105 p106 s107 => ?_
     have s108 := p106.o s104 rfl
     refine s1k p106.z rfl (yd p106.z rfl rfl s108) rfl fun a109 p110 s111 => ?_
     have s112 := p110.o s108 rfl
     refine s1 p110.z (okPickF s112 cst) rfl fun a113 p114 s115 => ?_
     exact rN ⟨rfl, rfl, (((((((Pg.refl p89.z).st p94 rfl).st p98 rfl).st p102 rfl).st p106 rfl).st p110 rfl).st p114 rfl), (andF hb91 s115)⟩
    ·have s116 := bv s90 hb91
     have s117 := p89.o (p86.o (p83.o (p80.o sp68 rfl) rfl) rfl) rfl
     refine s1g p89.z (okFA (o' := 3) fo38_3 s117 rfl) rfl (yd p89.z rfl rfl s116) fun a118 p119 s120 => ?_
     have s121 := p119.o s116 rfl
     refine s1g p119.z (okFA (o' := 3) fo36_0 s120 rfl) rfl (yd p119.z rfl rfl s121) fun a122 p123 s124 => ?_
     have s125 := p123.o s121 rfl
     refine s1g p123.z (okLd (j := 3) na3 s124 (m76.cl) rfl rfl) rfl (yd p123.z rfl rfl s125) fun a126 p127 s128 => ?_
     have s129 := p127.o s125 rfl
     have s130 := p127.o (p123.o (p119.o (p89.o (p86.o (p83.o (p80.o (p68.o (p63.o (p60.o (p45.o s32 rfl) rfl) rfl) rfl) rfl) rfl) rfl) rfl) rfl) rfl) rfl
     refine s1g p127.z (okMv s130) rfl (yd p127.z rfl rfl s129) fun a131 p132 s133 => ?_
     have s134 := p132.o s129 rfl
     have s135 := p132.o s128 rfl
     refine s1g p132.z (okEq s135 s133) rfl (yd p132.z rfl rfl s134) fun a136 p137 s138 => ?_
     have s139 := p137.o s134 rfl
     refine s1 p137.z (okPickT s139 s138) rfl fun a140 p141 s142 => ?_
     exact rN ⟨rfl, rfl, (((((((Pg.refl p89.z).st p119 rfl).st p123 rfl).st p127 rfl).st p132 rfl).st p137 rfl).st p141 rfl), (andT hb91 s142)⟩
   rintro a143 ⟨pg144, s145⟩
   refine rN (thenN ?_)
   have s146 := pg144.o (p89.o (p86.o (p83.o (p80.o (p68.o (p63.o (p60.o s48 rfl) rfl) rfl) rfl) rfl) rfl) rfl) rfl
   have s147 := pg144.o (p89.o (p86.o (p83.o (p80.o (p68.o (p63.o (p60.o s49 rfl) rfl) rfl) rfl) rfl) rfl) rfl) rfl
   have s148 := pg144.o (p89.o (p86.o (p83.o (p80.o (p68.o (p63.o (p60.o s46 rfl) rfl) rfl) rfl) rfl) rfl) rfl) rfl
   have s149 := pg144.o (p89.o (p86.o (p83.o (p80.o (p68.o (p63.o s61 rfl) rfl) rfl) rfl) rfl) rfl) rfl
   have s150 := pg144.o (p89.o (p86.o (p83.o (p80.o s74 rfl) rfl) rfl) rfl) rfl
   have s151 := pg144.o (p89.o (p86.o (p83.o (p80.o sp68 rfl) rfl) rfl) rfl) rfl
   have s152 := pg144.o (p89.o (p86.o (p83.o s81 rfl) rfl) rfl) rfl
   have s153 := pg144.o (p89.o (p86.o s84 rfl) rfl) rfl
   have s154 := pg144.o (p89.o s87 rfl) rfl
   have s155 := pg144.o s90 rfl
   have pg156 : Pg _ [7, 11, 12, 13, 14, 15, 16, 17, 18, 19, 20, 21, 22, 23] _ _ := ((((((((((Pg.refl z31).st p45 rfl).st p60 rfl).st p63 rfl).st p68 rfl).st p80 rfl).st p83 rfl).st p86 rfl).st p89 rfl).tr pg144 rfl)
   refine cnd s145 (fun hb157 => ?_) (fun hb157 => ?_)
   ·replace h := (ifP hb157).symm.trans h
    refine reg ?_
    have s158 := pg156.o s34 rfl
    refine s1 pg156.z (okMv s158) rfl fun a159 p160 s161 => ?_
    have s162 := p160.o s151 rfl
    refine s1 p160.z (okFA (o' := 1) fo38_1 s162 rfl) rfl fun a163 p164 s165 => ?_
    refine s1 p164.z (okLd (j := 1) na3 s165 (m76.cl) rfl rfl) rfl fun a166 p167 s168 => ?_
    have q176 := (q38.t0 (g70.tA (Nat.le_of_eq e71.symm)) g70).t1 (g77.t1 (.head _)) g77 (q38.nb e71)
    refine lS (oBS (K := (KInt .i64)) (L := (b67 :: (ownB h21 ++ L))) (xs := [y50.thread]) (C := [[.int .i64 y50.thread]]) p167.z (pb1 s168) (bs29_1_0 y50.thread) rfl rfl (all2C rfl all2N) rfl rfl fun a169 v170 w171 p172 sp172 q173 g174 f175 => ?_)
    have f177 := frN f175
    have nb178 := nbA hL cx78.g.sz (fun _ h => nilO h) f177
    have sf179 := sfA (S := []) cx78.g.sz (fun _ h => nilO h) f177
    have n180 := m76.no (fun h => nilO h) f177
    have n181 := q176.dj (fun _ _ h => nilO h) f177
    have cx182 := cx78.ap g174 (fun _ h => nilO h) q173
    have s183 := p172.o (p167.o (p164.o s161 rfl) rfl) rfl
    obtain ⟨z184, hz185, h⟩ := Option.bind_eq_some_iff.1 h
    have q186 := q176.t0 (tAp g174 (fun _ h => nilO h) f177) g174
    have m187 := m76.g0 g174
    refine lS (oApp (K := (KInt .i64)) (L := (ownB v170 ++ (b67 :: (ownB h21 ++ L)))) Tryd.underlying29 ti3 rfl p172.z s183 sp172 q186 q173.src hz185 (fun _ h => (List.mem_append_right _ (.tail _ (List.mem_append_left _ h)))) rfl fun a188 v189 w190 p191 sp191 q192 g193 f194 => ?_)
    have nb195 := nbA hL cx182.g.sz n42 f194
    have sf196 := sfA (S := []) cx182.g.sz n43 f194
    have n197 := m187.no (q38.nb e71) f194
    have n198 := q173.dj (djs n181) f194
    have cx199 := cx182.ap g193 n43 q192
    have cx200 := cx199.sub (fun i h => (List.mem_append.1 h).elim (fun h => (List.mem_append_left _ h)) (fun h => (List.mem_append.1 h).elim (fun h => (List.mem_append_right _ (List.mem_append_left _ h))) (fun h => (List.mem_cons.1 h).elim (fun e => e ▸ (List.mem_append_right _ (List.mem_append_right _ (.head _)))) (fun h => (List.mem_append_right _ (List.mem_append_right _ (.tail _ (List.mem_append_right _ h))))))))
    have q201 := q192.sub (fun i h => (List.mem_append.1 h).elim (fun h => (List.mem_append_left _ h)) (fun h => (List.mem_append.1 h).elim (fun h => (List.mem_append_right _ (List.mem_append_left _ h))) (fun h => (List.mem_cons.1 h).elim (fun e => e ▸ (List.mem_append_right _ (List.mem_append_right _ (.head _)))) (fun h => (List.mem_append_right _ (List.mem_append_right _ (.tail _ (List.mem_append_right _ h))))))))
    refine s1 p191.z (okAs sp191) rfl fun a202 p203 s204 => ?_
    refine rN (blkN (thenN ?_))
    refine reg ?_
    have s205 := p203.o (p191.o (p172.o (p167.o (p164.o (p160.o s147 rfl) rfl) rfl) rfl) rfl) rfl
    refine s1 p203.z (okAdd s205 cst) rfl fun a206 p207 s208 => ?_
    refine s1 p207.z (okMv s208) rfl fun a209 p210 s211 => ?_
    have s212 := p210.o (p207.o (p203.o (p191.o (p172.o (p167.o (p164.o (p160.o (pg156.o s32 rfl) rfl) rfl) rfl) rfl) rfl) rfl) rfl) rfl
    have s213 := p210.o (p207.o (p203.o (p191.o (p172.o (p167.o (p164.o (p160.o (pg156.o s33 rfl) rfl) rfl) rfl) rfl) rfl) rfl) rfl) rfl
    have s214 := p210.o (p207.o s204 rfl) rfl
    have s215 := p210.o (p207.o (p203.o (p191.o (p172.o (p167.o (p164.o (p160.o s146 rfl) rfl) rfl) rfl) rfl) rfl) rfl) rfl
    have s216 := p210.o (p207.o (p203.o (p191.o (p172.o (p167.o (p164.o (p160.o (pg156.o s36 rfl) rfl) rfl) rfl) rfl) rfl) rfl) rfl) rfl
    have q217 := q39.mono ((((g70.tA (Nat.le_of_eq e71.symm)).trans (g77.t1 (.head _))).trans (tAp g174 (fun _ h => nilO h) f177)).trans (Tr.sub (tAp g193 (fun _ h => (List.mem_append_right _ (.tail _ (List.mem_append_left _ h)))) f194) (fun i h => (List.mem_append.1 h).elim (fun h => (List.mem_append_left _ h)) (fun h => (List.mem_append.1 h).elim (fun h => (List.mem_append_right _ (List.mem_append_left _ h))) (fun h => (List.mem_cons.1 h).elim (fun e => e ▸ (List.mem_append_right _ (List.mem_append_right _ (.head _)))) (fun h => (List.mem_append_right _ (List.mem_append_right _ (.tail _ (List.mem_append_right _ h))))))))))
    exact rN (thenN ⟨k, Nat.lt_succ_self k, (w64 (i17 + 1)), z184, v189, p210.z, s212, s213, s214, s215, s216, s211, (q201.sub (fun i h => (List.mem_append.1 h).elim (fun h => (List.mem_append_left _ h)) (fun h => (List.mem_append_right _ (List.mem_append_right _ (.tail _ h)))))), (q217.mono ((Tr.refl _ _).sub (fun i h => (List.mem_append.1 h).elim (fun h => (List.mem_append_left _ h)) (fun h => (List.mem_append_right _ (List.mem_append_right _ (.tail _ h))))))), (cx200.sub (fun i h => (List.mem_append.1 h).elim (fun h => (List.mem_append_left _ h)) (fun h => (List.mem_append_right _ (List.mem_append_right _ (.tail _ h)))))), nb195, sf196, h⟩)
   replace h := (ifN hb157).symm.trans h
   refine wp_skip (blkN (thenN ?_))
   refine reg ?_
   refine s1 pg156.z (okAdd s147 cst) rfl fun a218 p219 s220 => ?_
   refine s1 p219.z (okMv s220) rfl fun a221 p222 s223 => ?_
   have s224 := p222.o (p219.o (pg156.o s32 rfl) rfl) rfl
   have s225 := p222.o (p219.o (pg156.o s33 rfl) rfl) rfl
   have s226 := p222.o (p219.o (pg156.o s34 rfl) rfl) rfl
   have s227 := p222.o (p219.o s146 rfl) rfl
   have s228 := p222.o (p219.o (pg156.o s36 rfl) rfl) rfl
   have q229 := (q38.t0 (g70.tA (Nat.le_of_eq e71.symm)) g70).t1 (g77.t1 (.head _)) g77 (q38.nb e71)
   have q230 := q39.mono ((g70.tA (Nat.le_of_eq e71.symm)).trans (g77.t1 (.head _)))
   exact rN (thenN ⟨k, Nat.lt_succ_self k, (w64 (i17 + 1)), i18, h21, p222.z, s224, s225, s226, s227, s228, s223, (q229.sub (fun i h => (.tail _ h))), (q230.mono ((Tr.refl _ _).sub (fun i h => (.tail _ h)))), (cx78.sub (fun i h => (.tail _ h))), n42, n43, h⟩)
  replace h := (ifN hb47).symm.trans h
  obtain rfl := Option.some.inj h
  have s231 := p45.o s33 rfl
  have s232 := p45.o s34 rfl
  exact wp_exit (thenE (thenE (jqE ⟨h21, p45.z, s231, s232, q38, cx40, n42, n43⟩)))
 clear ho20
 rintro a233 w234 ⟨h22, z235, s236, s237, q238, cx239, n240, n241⟩
 refine blkE (thenN ?_)
 refine wp_seq ?_
 refine reg ?_
 refine s1 z235 (okMv s237) rfl fun a242 p243 s244 => ?_
 refine s1 p243.z (okAs s244) rfl fun a245 p246 s247 => ?_
 refine rN (thenN ?_)
 obtain rfl := Option.some.inj h
 exact wp_ret (ret1 p246.z Tryd.results18 (rvT s247) ⟨_, rfl, (q238.rd (fun i h => (List.mem_append_right _ h)) n240), cx239.g⟩)

set_option maxHeartbeats 4000000 in
set_option maxRecDepth 100000 in
theorem c19 (k : Nat) (L : List Nat) (w : World) (hL : ∀ b ∈ L, b < w.heap.size) (x0 : List TEvent) (h0 : Value) (qh0 : RdS KTEvent L w h0 x0) (x1 : Int) (r : Int) (h : hist_Marks k x0 x1 = some r) : Calls Tryd.prog 19 #[h0, .int .i64 x1] w (fun e w' => ∃ v, e = .returned v ∧ v = .int .i64 r ∧ G [] w w') := by
 refine enterF Tryd.func19 rfl rfl fun a0 z0 A => ?_
 have s0_0 := A 0 (h0) rfl
 have s0_1 := A 1 (.int .i64 x1) rfl
 clear A
 have c0 : Cx [] w L w := ⟨G.refl _ _, hL⟩
 unfold hist_Marks at h
 refine wp_seq ?_
 refine reg ?_
 refine s1 z0 (okAs cst) rfl fun a1 p2 s3 => ?_
 refine rN (thenN ?_)
 refine wp_seq ?_
 refine reg ?_
 have s4 := p2.o s0_0 rfl
 refine s1 p2.z (okMv s4) rfl fun a5 p6 s7 => ?_
 have s8 := p6.o (p2.o s0_1 rfl) rfl
 refine s1 p6.z (okMv s8) rfl fun a9 p10 s11 => ?_
 have s12 := p10.o s7 rfl
 obtain ⟨t13, ht14, h⟩ := Option.bind_eq_some_iff.1 h
 refine lS (oCall p10.z Tryd.call18 (ag2 s12 s11) (c18 k L w c0.lt _ _ qh0 _ _ ht14) rfl fun v18 a15 w16 hp19 p17 sp17 => ?_)
 obtain ⟨q20, g21⟩ := hp19
 have cx22 := c0.ca g21
 refine s1 p17.z (okLenR Tryd.underlying29 sp17 q20) rfl fun a23 p24 s25 => ?_
 refine s1 p24.z (okAs s25) rfl fun a26 p27 s28 => ?_
 refine rN (thenN ?_)
 obtain rfl := Option.some.inj h
 exact wp_ret (ret1 p27.z Tryd.results19 (rvT s28) ⟨_, rfl, rfl, cx22.g⟩)

set_option maxHeartbeats 4000000 in
set_option maxRecDepth 100000 in
theorem c13 (k : Nat) (L : List Nat) (w : World) (hL : ∀ b ∈ L, b < w.heap.size) (x0 : Int) (x1 : List TEvent) (h1 : Value) (qh1 : RdS KTEvent L w h1 x1) (r : (List (List TResult))) (h : hist_Results k x0 x1 = some r) : Calls Tryd.prog 13 #[.int .i64 x0, h1] w (fun e w' => ∃ v, e = .returned v ∧ RdS (KSl KTResult) L w' v r ∧ G [] w w') := by
 refine enterF Tryd.func13 rfl rfl fun a0 z0 A => ?_
 have s0_0 := A 0 (.int .i64 x0) rfl
 have s0_1 := A 1 (h1) rfl
 clear A
 have c0 : Cx [] w L w := ⟨G.refl _ _, hL⟩
 unfold hist_Results at h
 refine wp_seq ?_
 refine reg ?_
 refine s1 z0 (okAs cst) rfl fun a1 p2 s3 => ?_
 refine rN (thenN ?_)
 refine wp_seq ?_
 refine wp_seq ?_
 refine reg ?_
 have s4 := p2.o s0_0 rfl
 refine s1 p2.z (okMv s4) rfl fun a5 p6 s7 => ?_
 refine s1 p6.z (okLt s7 cst) rfl fun a8 p9 s10 => ?_
 refine s1 p9.z (okMv s10) rfl fun a11 p12 s13 => ?_
 refine cutP 3 (fun a' => Pg Tryd.f13.ntmps [11, 12, 13] a11 a' ∧ a'.eval (.tmp 13) = .bool ((decide (x0 < 0)) || (decide (8 < x0)))) ?_ ?_
 ·rcases bf (decide (x0 < 0)) with hb14 | hb14
  ·have s15 := bv s13 hb14
   have s16 := p12.o (p9.o (p6.o s4 rfl) rfl) rfl
   refine s1g p12.z (okMv s16) rfl (yd p12.z rfl rfl s15) fun a17 p18 s19 => ?_
   have s20 := p18.o s15 rfl
   refine s1g p18.z (okGt s19 cst) rfl (yd p18.z rfl rfl s20) fun a21 p22 s23 => ?_
   have s24 := p22.o s20 rfl
   refine s1 p22.z (okPickF s24 s23) rfl fun a25 p26 s27 => ?_
   exact rN ⟨rfl, rfl, ((((Pg.refl p12.z).st p18 rfl).st p22 rfl).st p26 rfl), (orF hb14 s27)⟩
  ·have s28 := bv s13 hb14
   refine s1k p12.z rfl (yd p12.z rfl rfl s28) rfl fun a29 p30 s31 => ?_
   have s32 := p30.o s28 rfl
   refine s1k p30.z rfl (yd p30.z rfl rfl s32) rfl fun a33 p34 s35 => ?_
   have s36 := p34.o s32 rfl
   refine s1 p34.z (okPickT s36 cst) rfl fun a37 p38 s39 => ?_
   exact rN ⟨rfl, rfl, ((((Pg.refl p12.z).st p30 rfl).st p34 rfl).st p38 rfl), (orT hb14 s39)⟩
 rintro a40 ⟨pg41, s42⟩
 refine rN (thenN ?_)
 have s43 := pg41.o (p12.o (p9.o (p6.o s4 rfl) rfl) rfl) rfl
 have s44 := pg41.o (p12.o (p9.o (p6.o s3 rfl) rfl) rfl) rfl
 have pg45 : Pg _ [4, 8, 9, 10, 11, 12, 13] _ _ := ((((((Pg.refl z0).st p2 rfl).st p6 rfl).st p9 rfl).st p12 rfl).tr pg41 rfl)
 refine cnd s42 (fun hb46 => ?_) (fun hb46 => ?_)
 ·replace h := (ifP hb46).symm.trans h
  refine wp_seq ?_
  refine reg ?_
  refine s1 pg45.z (okAs cst) rfl fun a47 p48 s49 => ?_
  refine rN (thenN ?_)
  obtain rfl := Option.some.inj h
  exact wp_ret (thenR (ret1 p48.z Tryd.results13 (rvT s49) ⟨_, rfl, RdS.nil, c0.g⟩))
 replace h := (ifN hb46).symm.trans h
 refine wp_skip (thenN ?_)
 refine wp_seq ?_
 refine reg ?_
 refine s1 pg45.z (okMv s43) rfl fun a50 p51 s52 => ?_
 obtain ⟨z53, hz54, h⟩ := Option.bind_eq_some_iff.1 h
 refine lS (oMkO (K := KTResult) (E := 64) (B := w.heap.size) Tryd.underlying24 ti27 rfl zv27 p51.z s52 s52 hz54 c0.g.sz rfl fun a55 v56 w57 p58 sp58 q59 g60 => ?_)
 have cx61 := c0.ca g60
 refine s1 p58.z (okAs sp58) rfl fun a62 p63 s64 => ?_
 refine rN (thenN ?_)
 refine wp_seq ?_
 refine wp_seq ?_
 refine reg ?_
 have s65 := p63.o (p58.o (p51.o (pg45.o s0_1 rfl) rfl) rfl) rfl
 refine s1 p63.z (okMv s65) rfl fun a66 p67 s68 => ?_
 have q69 := qh1.mono g60.t0
 refine s1 p67.z (okLenR Tryd.underlying22 s68 q69) rfl fun a70 p71 s72 => ?_
 refine s1 p71.z (okMv cst) rfl fun a73 p74 s75 => ?_
 refine rN (thenN ?_)
 refine wp_block ?_
 obtain ⟨o78, ho79, h⟩ := Option.bind_eq_some_iff.1 h
 have s80 := p74.o (p71.o (p67.o (p63.o (p58.o (p51.o s43 rfl) rfl) rfl) rfl) rfl) rfl
 have s81 := p74.o (p71.o (p67.o (p63.o (p58.o (p51.o s44 rfl) rfl) rfl) rfl) rfl) rfl
 have s82 := p74.o (p71.o (p67.o s64 rfl) rfl) rfl
 have s83 := p74.o (p71.o s68 rfl) rfl
 have s84 := p74.o s72 rfl
 refine loopX (I := (fun k' a' w' => ∃ i76 i77, Z Tryd.f13.ntmps a' ∧ a'.eval (.tmp 0) = .int .i64 x0 ∧ a'.eval (.tmp 4) = .slice none 0 0 ∧ a'.eval (.tmp 5) = v56 ∧ a'.eval (.tmp 16) = h1 ∧ a'.eval (.tmp 17) = .int .i64 (x1.length : Int) ∧ a'.eval (.tmp 18) = .int .i64 i76 ∧ OO KTResult 64 27 w.heap.size w' v56 i77 ∧ RdS KTEvent L w' h1 x1 ∧ Cx [] w L w' ∧ hist_Results.l0 x0 x1 k' i76 i77 = some o78)) 0 (fun a' w' => Z Tryd.f13.ntmps a' ∧ a'.eval (.tmp 4) = .slice none 0 0 ∧ a'.eval (.tmp 5) = v56 ∧ OO KTResult 64 27 w.heap.size w' v56 o78 ∧ Cx [] w L w') ⟨0, z53, p74.z, s80, s81, s82, s83, s84, s75, q59, q69, cx61, ho79⟩ ?_ ?_
 ·have oh98 := h; clear h ho79
  rintro k85 a86 w87 ⟨i76, i77, z88, s89, s90, s91, s92, s93, s94, q95, q96, cx97, h⟩
  obtain _ | k := k85
  case zero => cases h
  rw [hist_Results.l0] at h
  refine wp_seq ?_
  refine reg ?_
  refine s1 z88 (okLt s94 s93) rfl fun a99 p100 s101 => ?_
  refine rN (thenN ?_)
  refine wp_seq ?_
  refine cnd s101 (fun hb102 => ?_) (fun hb102 => ?_)
  ·replace h := (ifP hb102).symm.trans h
   refine wp_skip (thenN ?_)
   refine wp_seq ?_
   refine wp_block ?_
   refine wp_seq ?_
   refine reg ?_
   have s103 := p100.o s92 rfl
   have s104 := p100.o s94 rfl
   obtain ⟨y105, hy106, h⟩ := Option.bind_eq_some_iff.1 h
   obtain ⟨b107, o108, cs109, r111, e112, nb113, k110⟩ := q96.at_ hy106
   obtain rfl := r111
   refine s1 p100.z (k110 Tryd.underlying22 Tryd.sizeOf38 s103 s104 _) rfl fun a114 p115 s116 => ?_
   refine s1 p115.z (okLdA ag38 s116 e112 rfl rfl whole) rfl fun a117 p118 s119 => ?_
   refine lS (oAlloc zv38 p118.z rfl fun a120 w121 b122 p123 sp123 m124 g125 e126 => ?_)
   have f128 := cx97.nw e126
   have cx127 := cx97.al g125 m124
   have s129 := p123.o s119 rfl
   refine lS (oStoW (cs := TEvent.C y105) p123.z sp123 s129 m124 Tryd.sizeOf38 rfl (TEvent.C_one _) rfl fun w130 m131 g132 => ?_)
   have cx133 := cx127.st g132 f128
   refine rN (thenN ?_)
   refine wp_seq ?_
   refine reg ?_
   refine s1 p123.z (okFA (o' := 0) fo38_0 sp123 rfl) rfl fun a134 p135 s136 => ?_
   refine s1 p135.z (okLd (j := 0) na3 s136 (m131.cl) rfl rfl) rfl fun a137 p138 s139 => ?_
   refine s1 p138.z (okEq s139 cst) rfl fun a140 p141 s142 => ?_
   refine s1 p141.z (okMv s142) rfl fun a143 p144 s145 => ?_
   refine cutP 4 (fun a' => Pg Tryd.f13.ntmps [26, 27, 28, 29] a143 a' ∧ a'.eval (.tmp 29) = .bool ((y105.kind == 3) && (decide (0 ≤ y105.thread)))) ?_ ?_
   ·rcases bf (y105.kind == 3) with hb146 | hb146
    ·have s147 := bv s145 hb146
     refine s1k p144.z rfl (yd p144.z rfl rfl s147) rfl fun a148 p149 s150 => ?_
     have s151 := p149.o s147 rfl
     refine s1k p149.z rfl (yd p149.z rfl rfl s151) rfl fun a152 p153 s154 => ?_
     have s155 := p153.o s151 rfl
     refine s1k p153.z rfl (yd p153.z rfl rfl s155) rfl fun a156 p157 s158 => ?_
     have s159 := p157.o s155 rfl
     refine s1 p157.z (okPickF s159 cst) rfl fun a160 p161 s162 => ?_
     exact rN ⟨rfl, rfl, (((((Pg.refl p144.z).st p149 rfl).st p153 rfl).st p157 rfl).st p161 rfl), (andF hb146 s162)⟩
    ·have s163 := bv s145 hb146
     have s164 := p144.o (p141.o (p138.o (p135.o sp123 rfl) rfl) rfl) rfl
     refine s1g p144.z (okFA (o' := 1) fo38_1 s164 rfl) rfl (yd p144.z rfl rfl s163) fun a165 p166 s167 => ?_
     have s168 := p166.o s163 rfl
     refine s1g p166.z (okLd (j := 1) na3 s167 (m131.cl) rfl rfl) rfl (yd p166.z rfl rfl s168) fun a169 p170 s171 => ?_
     have s172 := p170.o s168 rfl
     refine s1g p170.z (okGe s171 cst) rfl (yd p170.z rfl rfl s172) fun a173 p174 s175 => ?_
     have s176 := p174.o s172 rfl
     refine s1 p174.z (okPickT s176 s175) rfl fun a177 p178 s179 => ?_
     exact rN ⟨rfl, rfl, (((((Pg.refl p144.z).st p166 rfl).st p170 rfl).st p174 rfl).st p178 rfl), (andT hb146 s179)⟩
   rintro a180 ⟨pg181, s182⟩
   refine s1 pg181.z (okMv s182) rfl fun a183 p184 s185 => ?_
   refine cutP 5 (fun a' => Pg Tryd.f13.ntmps [31, 32, 33, 34, 35] a183 a' ∧ a'.eval (.tmp 35) = .bool (((y105.kind == 3) && (decide (0 ≤ y105.thread))) && (decide (y105.thread < x0)))) ?_ ?_
   ·rcases bf ((y105.kind == 3) && (decide (0 ≤ y105.thread))) with hb186 | hb186
    ·have s187 := bv s185 hb186
     refine s1k p184.z rfl (yd p184.z rfl rfl s187) rfl fun a188 p189 s190 => ?_
     have s191 := p189.o s187 rfl
     refine s1k p189.z rfl (yd p189.z rfl rfl s191) rfl fun a192 p193 s194 => ?_
     have s195 := p193.o s191 rfl
     refine s1k p193.z rfl (yd p193.z rfl rfl s195) rfl fun a196 p197 s198 => ?_
     have s199 := p197.o s195 rfl
     refine s1k p197.z rfl (yd p197.z rfl rfl s199) rfl fun a200 p201 s202 => ?_
     have s203 := p201.o s199 rfl
     refine s1 p201.z (okPickF s203 cst) rfl fun a204 p205 s206 => ?_
     exact rN ⟨rfl, rfl, ((((((Pg.refl p184.z).st p189 rfl).st p193 rfl).st p197 rfl).st p201 rfl).st p205 rfl), (andF hb186 s206)⟩
    ·have s207 := bv s185 hb186
     have s208 := p184.o (pg181.o (p144.o (p141.o (p138.o (p135.o sp123 rfl) rfl) rfl) rfl) rfl) rfl
     refine s1g p184.z (okFA (o' := 1) fo38_1 s208 rfl) rfl (yd p184.z rfl rfl s207) fun a209 p210 s211 => ?_
     have s212 := p210.o s207 rfl
     refine s1g p210.z (okLd (j := 1) na3 s211 (m131.cl) rfl rfl) rfl (yd p210.z rfl rfl s212) fun a213 p214 s215 => ?_
     have s216 := p214.o s212 rfl
     have s217 := p214.o (p210.o (p184.o (pg181.o (p144.o (p141.o (p138.o (p135.o (p123.o (p118.o (p115.o (p100.o s89 rfl) rfl) rfl) rfl) rfl) rfl) rfl) rfl) rfl) rfl) rfl) rfl
     refine s1g p214.z (okMv s217) rfl (yd p214.z rfl rfl s216) fun a218 p219 s220 => ?_
     have s221 := p219.o s216 rfl
     have s222 := p219.o s215 rfl
     refine s1g p219.z (okLt s222 s220) rfl (yd p219.z rfl rfl s221) fun a223 p224 s225 => ?_
     have s226 := p224.o s221 rfl
     refine s1 p224.z (okPickT s226 s225) rfl fun a227 p228 s229 => ?_
     exact rN ⟨rfl, rfl, ((((((Pg.refl p184.z).st p210 rfl).st p214 rfl).st p219 rfl).st p224 rfl).st p228 rfl), (andT hb186 s229)⟩
   rintro a230 ⟨pg231, s232⟩
   refine rN (thenN ?_)
   have s233 := pg231.o (p184.o (pg181.o (p144.o (p141.o (p138.o (p135.o (p123.o (p118.o (p115.o s103 rfl) rfl) rfl) rfl) rfl) rfl) rfl) rfl) rfl) rfl
   have s234 := pg231.o (p184.o (pg181.o (p144.o (p141.o (p138.o (p135.o (p123.o (p118.o (p115.o s104 rfl) rfl) rfl) rfl) rfl) rfl) rfl) rfl) rfl) rfl
   have s235 := pg231.o (p184.o (pg181.o (p144.o (p141.o (p138.o (p135.o (p123.o (p118.o (p115.o s101 rfl) rfl) rfl) rfl) rfl) rfl) rfl) rfl) rfl) rfl
   have s236 := pg231.o (p184.o (pg181.o (p144.o (p141.o (p138.o (p135.o (p123.o (p118.o s116 rfl) rfl) rfl) rfl) rfl) rfl) rfl) rfl) rfl
   have s237 := pg231.o (p184.o (pg181.o (p144.o (p141.o (p138.o (p135.o s129 rfl) rfl) rfl) rfl) rfl) rfl) rfl
   have s238 := pg231.o (p184.o (pg181.o (p144.o (p141.o (p138.o (p135.o sp123 rfl) rfl) rfl) rfl) rfl) rfl) rfl
   have s239 := pg231.o (p184.o (pg181.o (p144.o (p141.o (p138.o s136 rfl) rfl) rfl) rfl) rfl) rfl
   have s240 := pg231.o (p184.o (pg181.o (p144.o (p141.o s139 rfl) rfl) rfl) rfl) rfl
   have s241 := pg231.o (p184.o (pg181.o (p144.o s142 rfl) rfl) rfl) rfl
   have s242 := pg231.o (p184.o (pg181.o s145 rfl) rfl) rfl
   have s243 := pg231.o (p184.o s182 rfl) rfl
   have s244 := pg231.o s185 rfl
   have pg245 : Pg _ [7, 19, 20, 21, 22, 23, 24, 25, 26, 27, 28, 29, 30, 31, 32, 33, 34, 35] _ _ := ((((((((((((Pg.refl z88).st p100 rfl).st p115 rfl).st p118 rfl).st p123 rfl).st p135 rfl).st p138 rfl).st p141 rfl).st p144 rfl).tr pg181 rfl).st p184 rfl).tr pg231 rfl)
   refine cnd s232 (fun hb246 => ?_) (fun hb246 => ?_)
   ·replace h := (ifP hb246).symm.trans h
    have s247 := pg245.o s91 rfl
    obtain ⟨y248, hy249, h⟩ := Option.bind_eq_some_iff.1 h
    obtain ⟨bo250, hs251, hv252, ev253, m254, hg255, q256, nb257, hb258, hbv259, clo260⟩ := OO.opn (fun _ _ _ _ _ _ h => h) q95 hy249
    obtain ⟨z261, hz262, h⟩ := Option.bind_eq_some_iff.1 h
    have g263 := g125
    have g264 := g263.tr1 g132 (Nat.le_of_eq e126.symm)
    have p265 := (Nat.le_of_eq e126.symm)
    have n266 : b122 ∉ ownB hv252 := fun hb => Nat.lt_irrefl _ (Nat.lt_of_lt_of_le (q256.lt _ hb) p265)
    have hr268 := ix_lt hy249
    have m269 := m254.g0 g264
    have q270 := q256.t0 g264.t0 g264
    have s271 := pg245.o s89 rfl
    have s272 := pg245.o s90 rfl
    have s273 := pg245.o s93 rfl
    refine regJ (fun a' w' => Z Tryd.f13.ntmps a' ∧ a'.eval (.tmp 0) = .int .i64 x0 ∧ a'.eval (.tmp 4) = .slice none 0 0 ∧ a'.eval (.tmp 5) = v56 ∧ a'.eval (.tmp 16) = h1 ∧ a'.eval (.tmp 17) = .int .i64 (x1.length : Int) ∧ a'.eval (.tmp 18) = .int .i64 i76 ∧ a'.eval (.tmp 19) = .bool (decide (i76 < (x1.length : Int))) ∧ a'.eval (.tmp 20) = ptr b107 o108 ∧ a'.eval (.tmp 21) = .agg (TEvent.C y105).toArray ∧ a'.eval (.tmp 7) = ptr b122 0 ∧ a'.eval (.tmp 22) = ptr b122 0 ∧ a'.eval (.tmp 23) = .int .i64 y105.kind ∧ a'.eval (.tmp 24) = .bool (y105.kind == 3) ∧ a'.eval (.tmp 25) = .bool (y105.kind == 3) ∧ a'.eval (.tmp 29) = .bool ((y105.kind == 3) && (decide (0 ≤ y105.thread))) ∧ a'.eval (.tmp 30) = .bool ((y105.kind == 3) && (decide (0 ≤ y105.thread))) ∧ a'.eval (.tmp 35) = .bool (((y105.kind == 3) && (decide (0 ≤ y105.thread))) && (decide (y105.thread < x0))) ∧ OO KTResult 64 27 w.heap.size w' v56 (i77.set y105.thread.toNat z261) ∧ Cx [] w L w') ?_ ?_
    ·refine regH (n := 17) [(2, fun w' => Cl w' b122 1 [.int .i64 y105.thread]), (5, fun w' => Cl w' b122 1 [.int .i64 y105.thread]), (7, fun w' => Cl w' bo250 y105.thread.toNat [hv252]), (9, fun w' => Cl w' b122 5 [.int .i64 y105.value]), (11, fun w' => Cl w' b122 6 [.int .i64 y105.got])] mixed rfl ?_
     have g274 := G.drew w130
     have cx275 := cx133.ca g274
     have m276 := m269.g0 g274
     have q277 := q270.t0 g274.t0 g274
     refine hTakeW (i := 0) rfl (by kernel_rfl) (by kernel_rfl) (by kernel_rfl) nrm (cond := fun _ => True) (.inl fun _ => trivial) pg245.z (wN rfl) (fun _ _ => okMv s247) trivial rfl fun a278 p279 sp279 => ?_
     have s280 := p279.o s238 rfl
     refine hTakeW (i := 1) rfl (by kernel_rfl) (by kernel_rfl) (by kernel_rfl) nrm (cond := fun _ => True) (.inl fun _ => trivial) p279.z (wN rfl) (fun _ _ => okFA (o' := 1) fo38_1 s280 rfl) trivial rfl fun a281 p282 sp282 => ?_
     have m283 := m131.g0 g274
     refine hTakeW (i := 2) rfl (by kernel_rfl) (by kernel_rfl) (by kernel_rfl) nrm (.inr (.head _)) p282.z (wN rfl) (fun _ h => okLd (j := 0) na3 sp282 h rfl rfl) (m283.clp rfl) rfl fun a284 p285 sp285 => ?_
     have s286 := p285.o (p282.o (p279.o s247 rfl) rfl) rfl
     refine hTakeW (i := 3) rfl (by kernel_rfl) (by kernel_rfl) (by kernel_rfl) nrm (cond := fun _ => True) (.inl fun _ => trivial) p285.z (wN rfl) (fun _ _ => okMv s286) trivial rfl fun a287 p288 sp288 => ?_
     have s289 := p288.o (p285.o (p282.o s280 rfl) rfl) rfl
     refine hTakeW (i := 4) rfl (by kernel_rfl) (by kernel_rfl) (by kernel_rfl) nrm (cond := fun _ => True) (.inl fun _ => trivial) p288.z (wN rfl) (fun _ _ => okFA (o' := 1) fo38_1 s289 rfl) trivial rfl fun a290 p291 sp291 => ?_
     refine hTakeW (i := 5) rfl (by kernel_rfl) (by kernel_rfl) (by kernel_rfl) nrm (.inr (.tail _ (.head _))) p291.z (wN rfl) (fun _ h => okLd (j := 0) na3 sp291 h rfl rfl) (m283.clp rfl) rfl fun a292 p293 sp293 => ?_
     have s294 := p293.o (p291.o sp288 rfl) rfl
     refine hTakeW (i := 6) rfl (by kernel_rfl) (by kernel_rfl) (by kernel_rfl) nrm (cond := fun _ => True) (.inl fun _ => trivial) p293.z (wN rfl) (fun w2 _ => okOIx Tryd.underlying24 Tryd.sizeOf27 s294 ev253 sp293 hr268 w2) trivial rfl fun a295 p296 sp296 => ?_
     refine hTakeW (i := 7) rfl (by kernel_rfl) (by kernel_rfl) (by kernel_rfl) nrm (.inr (.tail _ (.tail _ (.head _)))) p296.z (wN rfl) (fun _ h => okLd (j := 0) na27 sp296 h rfl rfl) (clD hg255 m276.cl) rfl fun a297 p298 sp298 => ?_
     have s299 := p298.o (p296.o (p293.o (p291.o s289 rfl) rfl) rfl) rfl
     refine hTakeW (i := 8) rfl (by kernel_rfl) (by kernel_rfl) (by kernel_rfl) nrm (cond := fun _ => True) (.inl fun _ => trivial) p298.z (wN rfl) (fun _ _ => okFA (o' := 5) fo38_4 s299 rfl) trivial rfl fun a300 p301 sp301 => ?_
     refine hTakeW (i := 9) rfl (by kernel_rfl) (by kernel_rfl) (by kernel_rfl) nrm (.inr (.tail _ (.tail _ (.tail _ (.head _))))) p301.z (wN rfl) (fun _ h => okLd (j := 0) na3 sp301 h rfl rfl) (m283.clp rfl) rfl fun a302 p303 sp303 => ?_
     have s304 := p303.o (p301.o s299 rfl) rfl
     refine hTakeW (i := 10) rfl (by kernel_rfl) (by kernel_rfl) (by kernel_rfl) nrm (cond := fun _ => True) (.inl fun _ => trivial) p303.z (wN rfl) (fun _ _ => okFA (o' := 6) fo38_5 s304 rfl) trivial rfl fun a305 p306 sp306 => ?_
     refine hTakeW (i := 11) rfl (by kernel_rfl) (by kernel_rfl) (by kernel_rfl) nrm (.inr (.tail _ (.tail _ (.tail _ (.tail _ (.head _)))))) p306.z (wN rfl) (fun _ h => okLd (j := 0) na3 sp306 h rfl rfl) (m283.clp rfl) rfl fun a307 p308 sp308 => ?_
     have s309 := p308.o (p306.o sp303 rfl) rfl
     refine hTakeW (i := 12) rfl (by kernel_rfl) (by kernel_rfl) (by kernel_rfl) nrm (cond := fun _ => True) (.inl fun _ => trivial) p308.z (wN rfl) (fun _ _ => okBd (pb2 s309 sp308) (bd64_0_1 y105.value y105.got _)) trivial rfl fun a310 p311 sp311 => ?_
     refine hOne (i := 13) (by kernel_rfl) rfl (oBS (K := KTResult) (L := L) (xs := [(⟨y105.value, y105.got⟩ : TResult)]) (C := [TResult.C (⟨y105.value, y105.got⟩ : TResult)]) p311.z (pb1 sp311) (bs27_1_0 (⟨y105.value, y105.got⟩ : TResult)) rfl rfl (all2C rfl all2N) rfl rfl fun a312 v313 w314 p315 sp315 q316 g317 f318 => ?_)
     have f319 := frN f318
     have nb320 := nbA hL cx275.g.sz (fun _ h => nilO h) f319
     have sf321 := sfA (S := []) cx275.g.sz (fun _ h => nilO h) f319
     have n322 := m283.no (fun h => nilO h) f319
     have cx323 := cx275.ap g317 (fun _ h => nilO h) q316
     refine ⟨⟨.inr fun h => h.g0 g317, .inr fun h => h.g0 g317, .inr fun h => h.g0 g317, .inr fun h => h.g0 g317, .inr fun h => h.g0 g317, trivial⟩, ?_⟩
     have m324 := m276.g0 g317
     have q325 := q277.t0 g317.t0 g317
     have g326 := g274.tr0 g317
     have s327 := p315.o (p311.o (p308.o (p306.o (p303.o (p301.o sp298 rfl) rfl) rfl) rfl) rfl) rfl
     refine hOne (i := 14) (by kernel_rfl) rfl (oApp (K := KTResult) (L := ownB hv252) Tryd.underlying27 ti64 rfl p315.z s327 sp315 (OwnS.flat (fun _ _ _ _ _ _ h => h) q325) (OwnS.flat (L' := ownB hv252) (fun _ _ _ _ _ _ h => h) q316).src hz262 (fun _ h => h) rfl fun a328 v329 w330 p331 sp331 q332 g333 f334 => ?_)
     have cx335 := (cx323.sub (fun i h => List.mem_append_right _ h)).cs g333 (fun x hx => .inr (hbv259 x hx))
     refine ⟨⟨.inr fun h => h.g g333 n266, .inl (by kernel_rfl), .inl (by kernel_rfl), .inl (by kernel_rfl), .inl (by kernel_rfl), trivial⟩, ?_⟩
     have m336 := m324.g g333 nb257
     have n337 := m324.no nb257 f334
     have s338 := p331.o (p315.o (p311.o (p308.o (p306.o (p303.o (p301.o (p298.o (p296.o (p293.o (p291.o (p288.o (p285.o (p282.o sp279 rfl) rfl) rfl) rfl) rfl) rfl) rfl) rfl) rfl) rfl) rfl) rfl) rfl) rfl
     have s339 := p331.o (p315.o (p311.o (p308.o (p306.o (p303.o (p301.o (p298.o (p296.o (p293.o (p291.o (p288.o sp285 rfl) rfl) rfl) rfl) rfl) rfl) rfl) rfl) rfl) rfl) rfl) rfl
     refine hTakeW (i := 15) rfl (by kernel_rfl) (by kernel_rfl) (by kernel_rfl) nrm (cond := fun _ => True) (.inl fun _ => trivial) p331.z (wN rfl) (fun w2 _ => okOIx Tryd.underlying24 Tryd.sizeOf27 s338 ev253 s339 hr268 w2) trivial rfl fun a340 p341 sp341 => ?_
     have s342 := p341.o sp331 rfl
     refine hOne (i := 16) (by kernel_rfl) rfl (oSto (cs := [v329]) (l' := hs251.set y105.thread.toNat v329) p341.z sp341 s342 m336 Tryd.sizeOf27 q332.cells (oneS q332.one) (ble (by have := (List.getElem?_eq_some_iff.1 hg255).1; show _ + 1 ≤ _; omega)) rfl fun w343 m344 g345 => ?_)
     refine ⟨⟨.inl (by kernel_rfl), .inl (by kernel_rfl), .inl (by kernel_rfl), .inl (by kernel_rfl), .inl (by kernel_rfl), trivial⟩, ?_⟩
     have s346 := p341.o (p331.o (p315.o (p311.o (p308.o (p306.o (p303.o (p301.o (p298.o (p296.o (p293.o (p291.o (p288.o (p285.o (p282.o (p279.o s271 rfl) rfl) rfl) rfl) rfl) rfl) rfl) rfl) rfl) rfl) rfl) rfl) rfl) rfl) rfl) rfl
     have s347 := p341.o (p331.o (p315.o (p311.o (p308.o (p306.o (p303.o (p301.o (p298.o (p296.o (p293.o (p291.o (p288.o (p285.o (p282.o (p279.o s272 rfl) rfl) rfl) rfl) rfl) rfl) rfl) rfl) rfl) rfl) rfl) rfl) rfl) rfl) rfl) rfl
     have s348 := p341.o (p331.o (p315.o (p311.o (p308.o (p306.o (p303.o (p301.o (p298.o (p296.o (p293.o (p291.o (p288.o s286 rfl) rfl) rfl) rfl) rfl) rfl) rfl) rfl) rfl) rfl) rfl) rfl) rfl
     have s349 := p341.o (p331.o (p315.o (p311.o (p308.o (p306.o (p303.o (p301.o (p298.o (p296.o (p293.o (p291.o (p288.o (p285.o (p282.o (p279.o s233 rfl) rfl) rfl) rfl) rfl) rfl) rfl) rfl) rfl) rfl) rfl) rfl) rfl) rfl) rfl) rfl
     have s350 := p341.o (p331.o (p315.o (p311.o (p308.o (p306.o (p303.o (p301.o (p298.o (p296.o (p293.o (p291.o (p288.o (p285.o (p282.o (p279.o s273 rfl) rfl) rfl) rfl) rfl) rfl) rfl) rfl) rfl) rfl) rfl) rfl) rfl) rfl) rfl) rfl
     have s351 := p341.o (p331.o (p315.o (p311.o (p308.o (p306.o (p303.o (p301.o (p298.o (p296.o (p293.o (p291.o (p288.o (p285.o (p282.o (p279.o s234 rfl) rfl) rfl) rfl) rfl) rfl) rfl) rfl) rfl) rfl) rfl) rfl) rfl) rfl) rfl) rfl
     have s352 := p341.o (p331.o (p315.o (p311.o (p308.o (p306.o (p303.o (p301.o (p298.o (p296.o (p293.o (p291.o (p288.o (p285.o (p282.o (p279.o s235 rfl) rfl) rfl) rfl) rfl) rfl) rfl) rfl) rfl) rfl) rfl) rfl) rfl) rfl) rfl) rfl
     have s353 := p341.o (p331.o (p315.o (p311.o (p308.o (p306.o (p303.o (p301.o (p298.o (p296.o (p293.o (p291.o (p288.o (p285.o (p282.o (p279.o s236 rfl) rfl) rfl) rfl) rfl) rfl) rfl) rfl) rfl) rfl) rfl) rfl) rfl) rfl) rfl) rfl
     have s354 := p341.o (p331.o (p315.o (p311.o (p308.o (p306.o (p303.o (p301.o (p298.o (p296.o (p293.o (p291.o (p288.o (p285.o (p282.o (p279.o s237 rfl) rfl) rfl) rfl) rfl) rfl) rfl) rfl) rfl) rfl) rfl) rfl) rfl) rfl) rfl) rfl
     have s355 := p341.o (p331.o (p315.o (p311.o (p308.o (p306.o s304 rfl) rfl) rfl) rfl) rfl) rfl
     have s356 := p341.o (p331.o (p315.o (p311.o (p308.o (p306.o (p303.o (p301.o (p298.o (p296.o (p293.o (p291.o (p288.o (p285.o (p282.o (p279.o s239 rfl) rfl) rfl) rfl) rfl) rfl) rfl) rfl) rfl) rfl) rfl) rfl) rfl) rfl) rfl) rfl
     have s357 := p341.o (p331.o (p315.o (p311.o (p308.o (p306.o (p303.o (p301.o (p298.o (p296.o (p293.o (p291.o (p288.o (p285.o (p282.o (p279.o s240 rfl) rfl) rfl) rfl) rfl) rfl) rfl) rfl) rfl) rfl) rfl) rfl) rfl) rfl) rfl) rfl
     have s358 := p341.o (p331.o (p315.o (p311.o (p308.o (p306.o (p303.o (p301.o (p298.o (p296.o (p293.o (p291.o (p288.o (p285.o (p282.o (p279.o s241 rfl) rfl) rfl) rfl) rfl) rfl) rfl) rfl) rfl) rfl) rfl) rfl) rfl) rfl) rfl) rfl
     have s359 := p341.o (p331.o (p315.o (p311.o (p308.o (p306.o (p303.o (p301.o (p298.o (p296.o (p293.o (p291.o (p288.o (p285.o (p282.o (p279.o s242 rfl) rfl) rfl) rfl) rfl) rfl) rfl) rfl) rfl) rfl) rfl) rfl) rfl) rfl) rfl) rfl
     have s360 := p341.o (p331.o (p315.o (p311.o (p308.o (p306.o (p303.o (p301.o (p298.o (p296.o (p293.o (p291.o (p288.o (p285.o (p282.o (p279.o s243 rfl) rfl) rfl) rfl) rfl) rfl) rfl) rfl) rfl) rfl) rfl) rfl) rfl) rfl) rfl) rfl
     have s361 := p341.o (p331.o (p315.o (p311.o (p308.o (p306.o (p303.o (p301.o (p298.o (p296.o (p293.o (p291.o (p288.o (p285.o (p282.o (p279.o s244 rfl) rfl) rfl) rfl) rfl) rfl) rfl) rfl) rfl) rfl) rfl) rfl) rfl) rfl) rfl) rfl
     have s362 := p341.o (p331.o (p315.o (p311.o (p308.o (p306.o (p303.o (p301.o (p298.o (p296.o (p293.o (p291.o (p288.o (p285.o (p282.o (p279.o s232 rfl) rfl) rfl) rfl) rfl) rfl) rfl) rfl) rfl) rfl) rfl) rfl) rfl) rfl) rfl) rfl
     exact hDone (by kernel_rfl) ⟨rfl, p341.z, s346, s347, s348, s349, s350, s351, s352, s353, s354, s355, s356, s357, s358, s359, s360, s361, s362, clo260 g264 (fun x h1 h2 h3 => .inr (G3 g326 g333 g345 x h1 h2 h3)) (Nat.le_trans g326.sz (Nat.le_trans g333.sz g345.sz)) m344 (OwnS.flat (fun _ _ _ _ _ _ h => h) ((OwnS.flat (L' := [bo250]) (fun _ _ _ _ _ _ h => h) q332).t1 (g345.t1 (.head _)) g345 n337)) (fun x hx => (f334 x hx).imp id (Nat.le_trans g326.sz)), (cx335.st g345 hb258).sub (fun i h => (.tail _ h))⟩
    rintro a363 w364 ⟨z365, s366, s367, s368, s369, s370, s371, s372, s373, s374, s375, s376, s377, s378, s379, s380, s381, s382, q383, cx384⟩
    have q385 := qh1.mono cx384.g.t0
    refine blkN (thenN ?_)
    refine reg ?_
    refine s1 z365 (okAdd s371 cst) rfl fun a386 p387 s388 => ?_
    refine s1 p387.z (okMv s388) rfl fun a389 p390 s391 => ?_
    have s392 := p390.o (p387.o s366 rfl) rfl
    have s393 := p390.o (p387.o s367 rfl) rfl
    have s394 := p390.o (p387.o s368 rfl) rfl
    have s395 := p390.o (p387.o s369 rfl) rfl
    have s396 := p390.o (p387.o s370 rfl) rfl
    exact rN (thenN ⟨k, Nat.lt_succ_self k, (w64 (i76 + 1)), (i77.set y105.thread.toNat z261), p390.z, s392, s393, s394, s395, s396, s391, q383, q385, cx384, h⟩)
   replace h := (ifN hb246).symm.trans h
   refine wp_skip (blkN (thenN ?_))
   refine reg ?_
   refine s1 pg245.z (okAdd s234 cst) rfl fun a397 p398 s399 => ?_
   refine s1 p398.z (okMv s399) rfl fun a400 p401 s402 => ?_
   have s403 := p401.o (p398.o (pg245.o s89 rfl) rfl) rfl
   have s404 := p401.o (p398.o (pg245.o s90 rfl) rfl) rfl
   have s405 := p401.o (p398.o (pg245.o s91 rfl) rfl) rfl
   have s406 := p401.o (p398.o s233 rfl) rfl
   have s407 := p401.o (p398.o (pg245.o s93 rfl) rfl) rfl
   have g408 := g125
   have g409 := g408.tr1 g132 (Nat.le_of_eq e126.symm)
   have q410 := q95.g0 g409
   have q411 := q96.mono ((g125.tA (Nat.le_of_eq e126.symm)).trans (g132.t1 (.head _)))
   exact rN (thenN ⟨k, Nat.lt_succ_self k, (w64 (i76 + 1)), i77, p401.z, s403, s404, s405, s406, s407, s402, q410, (q411.mono ((Tr.refl _ _).sub (fun i h => (.tail _ h)))), (cx133.sub (fun i h => (.tail _ h))), h⟩)
  replace h := (ifN hb102).symm.trans h
  obtain rfl := Option.some.inj h
  have s412 := p100.o s90 rfl
  have s413 := p100.o s91 rfl
  exact wp_exit (thenE (thenE (jqE ⟨p100.z, s412, s413, q95, cx97⟩)))
 clear ho79
 rintro a414 w415 ⟨z416, s417, s418, q419, cx420⟩
 refine blkE (thenN ?_)
 refine wp_seq ?_
 refine reg ?_
 refine s1 z416 (okMv s418) rfl fun a421 p422 s423 => ?_
 refine s1 p422.z (okAs s423) rfl fun a424 p425 s426 => ?_
 refine rN (thenN ?_)
 obtain rfl := Option.some.inj h
 exact wp_ret (ret1 p425.z Tryd.results13 (rvT s426) ⟨_, rfl, (q419.rd (fun _ _ _ _ _ _ h => h) hL), cx420.g⟩)

set_option maxHeartbeats 4000000 in
set_option maxRecDepth 100000 in
theorem c12 (k : Nat) (L : List Nat) (w : World) (hL : ∀ b ∈ L, b < w.heap.size) (vT : TabA L w) (r : Bool) (h : tholelaw20_up k = some r) : Calls Tryd.prog 12 #[] w (fun e w' => ∃ v, e = .returned v ∧ v = .bool r ∧ G [] w w') := by
 refine enterF Tryd.func12 rfl rfl fun a0 z0 A => ?_
 clear A
 have c0 : Cx [] w L w := ⟨G.refl _ _, hL⟩
 unfold tholelaw20_up at h
 refine wp_seq ?_
 refine reg ?_
 refine s1 z0 (okAs cst) rfl fun a1 p2 s3 => ?_
 refine rN (thenN ?_)
 refine wp_seq ?_
 refine reg ?_
 refine s1 p2.z (okBd (pb2 cst cst) (bd36_0_1 1 1 _)) rfl fun a4 p5 s6 => ?_
 refine s1 p5.z (okBd (pb4 cst cst cst s6) (bd38_0_1_2_3 2 2 7 (⟨1, 1⟩ : TNote) _)) rfl fun a7 p8 s9 => ?_
 refine lS (oBS (K := KTEvent) (L := L) (xs := [(⟨2, 2, 7, (⟨1, 1⟩ : TNote), 0, 0⟩ : TEvent)]) (C := [TEvent.C (⟨2, 2, 7, (⟨1, 1⟩ : TNote), 0, 0⟩ : TEvent)]) p8.z (pb1 s9) (bs22_1_0 (⟨2, 2, 7, (⟨1, 1⟩ : TNote), 0, 0⟩ : TEvent)) rfl rfl (all2C rfl all2N) rfl rfl fun a10 v11 w12 p13 sp13 q14 g15 f16 => ?_)
 have f17 := frN f16
 have nb18 := nbA hL c0.g.sz (fun _ h => nilO h) f17
 have sf19 := sfA (S := []) c0.g.sz (fun _ h => nilO h) f17
 have cx20 := c0.ap g15 (fun _ h => nilO h) q14
 refine s1 p13.z (okAs sp13) rfl fun a21 p22 s23 => ?_
 refine rN (thenN ?_)
 refine wp_seq ?_
 refine reg ?_
 refine s1 p22.z (okMv s23) rfl fun a24 p25 s26 => ?_
 have q27 := vT.mono (tAp g15 (fun _ h => nilO h) f17)
 obtain ⟨t28, ht29, h⟩ := Option.bind_eq_some_iff.1 h
 refine lS (oCall p25.z Tryd.call20 (ag1 s26) (c20 k L w12 (fun i h => cx20.lt i (List.mem_append_right _ h)) (q27.mono ((Tr.refl _ _).sub (fun i h => (List.mem_append_right _ h)))) _ _ (q14.rd (fun i h => (List.mem_append_right _ h)) (fun b hb => nb18 _ hb)) _ ht29) rfl fun v33 a30 w31 hp34 p32 sp32 => ?_)
 obtain ⟨rfl, g35⟩ := hp34
 have cx36 := cx20.ca g35
 refine s1 p32.z (okStrEq sp32 cst) rfl fun a37 p38 s39 => ?_
 refine s1 p38.z (okMv s39) rfl fun a40 p41 s42 => ?_
 obtain ⟨b43, hb44, h⟩ := Option.bind_eq_some_iff.1 h
 refine cutL 4 (fun a' w' => Pg Tryd.f12.ntmps [9, 10, 11, 12] a40 a' ∧ a'.eval (.tmp 12) = .bool b43 ∧ G [] w31 w') ?_ ?_
 ·rcases bf (t28 == [55, 32, 116, 50, 32, 109, 97, 114, 107, 32, 49, 32, 49, 10]) with hb45 | hb45
  ·have s46 := bv s42 hb45
   replace hb44 := (ifN hb45).symm.trans hb44
   clear h; have h := hb44; clear hb44
   refine s1k p41.z rfl (yd p41.z rfl rfl s46) rfl fun a47 p48 s49 => ?_
   have s50 := p48.o s46 rfl
   refine s1k p48.z rfl (yd p48.z rfl rfl s50) rfl fun a51 p52 s53 => ?_
   have s54 := p52.o s50 rfl
   refine s1k p52.z rfl (yd p52.z rfl rfl s54) rfl fun a55 p56 s57 => ?_
   have s58 := p56.o s54 rfl
   refine s1 p56.z (okPickF s58 cst) rfl fun a59 p60 s61 => ?_
   obtain rfl := Option.some.inj h
   exact rN ⟨rfl, (((((Pg.refl p41.z).st p48 rfl).st p52 rfl).st p56 rfl).st p60 rfl), s61, (G.refl _ _)⟩
  ·have s62 := bv s42 hb45
   replace hb44 := (ifP hb45).symm.trans hb44
   clear h; have h := hb44; clear hb44
   have s63 := p41.o (p38.o (p32.o (p25.o s23 rfl) rfl) rfl) rfl
   refine s1g p41.z (okMv s63) rfl (yd p41.z rfl rfl s62) fun a64 p65 s66 => ?_
   have s67 := p65.o s62 rfl
   have q68 := q14.t0 g35.t0 g35
   obtain ⟨t69, ht70, h⟩ := Option.bind_eq_some_iff.1 h
   refine lG rfl (yd p65.z rfl rfl s67) (oCall p65.z Tryd.call19 (ag2 s66 cst) (c19 k L w31 (fun i h => cx36.lt i (List.mem_append_right _ h)) _ _ (q68.rd (fun i h => (List.mem_append_right _ h)) (fun b hb => nb18 _ hb)) _ _ ht70) rfl fun v74 a71 w72 hp75 p73 sp73 => ?_)
   obtain ⟨rfl, g76⟩ := hp75
   have cx77 := cx36.ca g76
   have s78 := p73.o s67 rfl
   refine s1g p73.z (okEq sp73 cst) rfl (yd p73.z rfl rfl s78) fun a79 p80 s81 => ?_
   have s82 := p80.o s78 rfl
   refine s1 p80.z (okPickT s82 s81) rfl fun a83 p84 s85 => ?_
   obtain rfl := Option.some.inj h
   exact rN ⟨rfl, (((((Pg.refl p41.z).st p65 rfl).st p73 rfl).st p80 rfl).st p84 rfl), s85, g76⟩
 rintro a86 w89 ⟨pg87, s88, g90⟩
 have cx91 := cx36.ca g90
 refine s1 pg87.z (okMv s88) rfl fun a92 p93 s94 => ?_
 obtain ⟨b95, hb96, h⟩ := Option.bind_eq_some_iff.1 h
 refine cutL 5 (fun a' w' => Pg Tryd.f12.ntmps [14, 15, 16, 17, 18] a92 a' ∧ a'.eval (.tmp 18) = .bool b95 ∧ G [] w89 w') ?_ ?_
 ·rcases bf b43 with hb97 | hb97
  ·have s98 := bv s94 hb97
   replace hb96 := (ifN hb97).symm.trans hb96
   clear h; have h := hb96; clear hb96
   refine s1k p93.z rfl (yd p93.z rfl rfl s98) rfl fun a99 p100 s101 => ?_
   have s102 := p100.o s98 rfl
   refine s1k p100.z rfl (yd p100.z rfl rfl s102) rfl fun a103 p104 s105 => ?_
   have s106 := p104.o s102 rfl
   refine s1k p104.z rfl (yd p104.z rfl rfl s106) rfl fun a107 p108 s109 => ?_
   have s110 := p108.o s106 rfl
   refine s1k p108.z rfl (yd p108.z rfl rfl s110) rfl fun a111 p112 s113 => ?_
   have s114 := p112.o s110 rfl
   refine s1 p112.z (okPickF s114 cst) rfl fun a115 p116 s117 => ?_
   obtain rfl := Option.some.inj h
   exact rN ⟨rfl, ((((((Pg.refl p93.z).st p100 rfl).st p104 rfl).st p108 rfl).st p112 rfl).st p116 rfl), s117, (G.refl _ _)⟩
  ·have s118 := bv s94 hb97
   replace hb96 := (ifP hb97).symm.trans hb96
   clear h; have h := hb96; clear hb96
   have s119 := p93.o (pg87.o (p41.o (p38.o (p32.o (p25.o s23 rfl) rfl) rfl) rfl) rfl) rfl
   refine s1g p93.z (okMv s119) rfl (yd p93.z rfl rfl s118) fun a120 p121 s122 => ?_
   have s123 := p121.o s118 rfl
   have q124 := (q14.t0 g35.t0 g35).t0 g90.t0 g90
   have q125 : RdS KTEvent L w89 v11 [(⟨2, 2, 7, (⟨1, 1⟩ : TNote), 0, 0⟩ : TEvent)] := q124.rd (fun i h => (List.mem_append_right _ h)) (fun b hb => nb18 _ hb)
   have cx126 := cx91.sub (fun i h => (List.mem_append_right _ h))
   obtain ⟨t127, ht128, h⟩ := Option.bind_eq_some_iff.1 h
   refine lG rfl (yd p121.z rfl rfl s123) (oCall p121.z Tryd.call13 (ag2 cst s122) (c13 k L w89 cx126.lt _ _ _ q125 _ ht128) rfl fun v132 a129 w130 hp133 p131 sp131 => ?_)
   obtain ⟨q134, g135⟩ := hp133
   have cx136 := cx126.ca g135
   have s137 := p131.o s123 rfl
   refine s1g p131.z (okLenR Tryd.underlying24 sp131 q134) rfl (yd p131.z rfl rfl s137) fun a138 p139 s140 => ?_
   have s141 := p139.o s137 rfl
   refine s1g p139.z (okEq s140 cst) rfl (yd p139.z rfl rfl s141) fun a142 p143 s144 => ?_
   have s145 := p143.o s141 rfl
   refine s1 p143.z (okPickT s145 s144) rfl fun a146 p147 s148 => ?_
   obtain rfl := Option.some.inj h
   exact rN ⟨rfl, ((((((Pg.refl p93.z).st p121 rfl).st p131 rfl).st p139 rfl).st p143 rfl).st p147 rfl), s148, ((G.refl [] w89).tr0 g135)⟩
 rintro a149 w152 ⟨pg150, s151, g153⟩
 have cx154 := cx91.ca g153
 refine s1 pg150.z (okAs s151) rfl fun a155 p156 s157 => ?_
 refine rN (thenN ?_)
 obtain rfl := Option.some.inj h
 exact wp_ret (ret1 p156.z Tryd.results12 (rvT s157) ⟨_, rfl, rfl, cx154.g⟩)

set_option maxHeartbeats 4000000 in
set_option maxRecDepth 100000 in
theorem c14 (k : Nat) (L : List Nat) (w : World) (hL : ∀ b ∈ L, b < w.heap.size) (x0 : List TResult) (h0 : Value) (qh0 : RdS KTResult L w h0 x0) (x1 : List TResult) (h1 : Value) (qh1 : RdS KTResult L w h1 x1) (r : Bool) (h : tholeref20_Same k x0 x1 = some r) : Calls Tryd.prog 14 #[h0, h1] w (fun e w' => ∃ v, e = .returned v ∧ v = .bool r ∧ G [] w w') := by
 refine enterF Tryd.func14 rfl rfl fun a0 z0 A => ?_
 have s0_0 := A 0 (h0) rfl
 have s0_1 := A 1 (h1) rfl
 clear A
 have c0 : Cx [] w L w := ⟨G.refl _ _, hL⟩
 unfold tholeref20_Same at h
 refine wp_seq ?_
 refine reg ?_
 refine s1 z0 (okAs cst) rfl fun a1 p2 s3 => ?_
 refine rN (thenN ?_)
 refine wp_seq ?_
 refine wp_seq ?_
 refine reg ?_
 have s4 := p2.o s0_0 rfl
 refine s1 p2.z (okMv s4) rfl fun a5 p6 s7 => ?_
 refine s1 p6.z (okLenR Tryd.underlying27 s7 qh0) rfl fun a8 p9 s10 => ?_
 have s11 := p9.o (p6.o (p2.o s0_1 rfl) rfl) rfl
 refine s1 p9.z (okMv s11) rfl fun a12 p13 s14 => ?_
 refine s1 p13.z (okLenR Tryd.underlying27 s14 qh1) rfl fun a15 p16 s17 => ?_
 have s18 := p16.o (p13.o s10 rfl) rfl
 refine s1 p16.z (okNe s18 s17) rfl fun a19 p20 s21 => ?_
 refine rN (thenN ?_)
 have s22 := p20.o (p16.o (p13.o (p9.o (p6.o s4 rfl) rfl) rfl) rfl) rfl
 have s23 := p20.o (p16.o (p13.o s11 rfl) rfl) rfl
 have s24 := p20.o (p16.o (p13.o (p9.o (p6.o s3 rfl) rfl) rfl) rfl) rfl
 have pg25 : Pg _ [4, 6, 7, 8, 9, 10] _ _ := (((((((Pg.refl z0).st p2 rfl).st p6 rfl).st p9 rfl).st p13 rfl).st p16 rfl).st p20 rfl)
 refine cnd s21 (fun hb26 => ?_) (fun hb26 => ?_)
 ·replace h := (ifP hb26).symm.trans h
  refine wp_seq ?_
  refine reg ?_
  refine s1 pg25.z (okAs cst) rfl fun a27 p28 s29 => ?_
  refine rN (thenN ?_)
  obtain rfl := Option.some.inj h
  exact wp_ret (thenR (ret1 p28.z Tryd.results14 (rvT s29) ⟨_, rfl, rfl, c0.g⟩))
 replace h := (ifN hb26).symm.trans h
 refine wp_skip (thenN ?_)
 refine wp_seq ?_
 refine wp_seq ?_
 refine reg ?_
 refine s1 pg25.z (okAs cst) rfl fun a30 p31 s32 => ?_
 refine rN (thenN ?_)
 refine wp_block ?_
 obtain ⟨o34, ho35, h⟩ := Option.bind_eq_some_iff.1 h
 have s37 := p31.o s22 rfl
 have s38 := p31.o s23 rfl
 have s39 := p31.o s24 rfl
 refine loopX (I := (fun k' a' w' => ∃ i33, Z Tryd.f14.ntmps a' ∧ a'.eval (.tmp 0) = h0 ∧ a'.eval (.tmp 1) = h1 ∧ a'.eval (.tmp 4) = .bool false ∧ a'.eval (.tmp 5) = .int .i64 i33 ∧ RdS KTResult L w' h0 x0 ∧ RdS KTResult L w' h1 x1 ∧ Cx [] w L w' ∧ tholeref20_Same.l0 x0 x1 k' i33 = some o34)) 0 (fun a' w' => ∃ g36, o34 = .go g36 ∧ Z Tryd.f14.ntmps a' ∧ a'.eval (.tmp 4) = .bool false ∧ Cx [] w L w') ⟨0, p31.z, s37, s38, s39, s32, qh0, qh1, c0, ho35⟩ ?_ ?_
 ·have oh51 := h; clear h ho35
  rintro k40 a41 w42 ⟨i33, z43, s44, s45, s46, s47, q48, q49, cx50, h⟩
  obtain _ | k := k40
  case zero => cases h
  rw [tholeref20_Same.l0] at h
  refine wp_seq ?_
  refine wp_seq ?_
  refine reg ?_
  refine s1 z43 (okMv s47) rfl fun a52 p53 s54 => ?_
  have s55 := p53.o s44 rfl
  refine s1 p53.z (okMv s55) rfl fun a56 p57 s58 => ?_
  refine s1 p57.z (okLenR Tryd.underlying27 s58 q48) rfl fun a59 p60 s61 => ?_
  have s62 := p60.o (p57.o s54 rfl) rfl
  refine s1 p60.z (okLt s62 s61) rfl fun a63 p64 s65 => ?_
  refine rN (thenN ?_)
  have s66 := p64.o (p60.o (p57.o s55 rfl) rfl) rfl
  have s67 := p64.o s62 rfl
  have s68 := p64.o (p60.o s58 rfl) rfl
  have s69 := p64.o s61 rfl
  have pg70 : Pg _ [11, 12, 13, 14] _ _ := (((((Pg.refl z43).st p53 rfl).st p57 rfl).st p60 rfl).st p64 rfl)
  refine cnd s65 (fun hb71 => ?_) (fun hb71 => ?_)
  ·replace h := (ifP hb71).symm.trans h
   refine wp_skip (thenN ?_)
   refine wp_seq ?_
   refine wp_block ?_
   refine wp_seq ?_
   refine regS mixed (by kernel_rfl) ?_
   have g72 := G.drew w42
   have cx73 := cx50.ca g72
   refine t1 pg70.z (okMv s66) rfl fun a74 p75 s76 => ?_
   have s77 := p75.o (pg70.o s47 rfl) rfl
   refine t1 p75.z (okMv s77) rfl fun a78 p79 s80 => ?_
   have s81 := p79.o s76 rfl
   have q82 := q48.mono g72.t0
   obtain ⟨y83, hy84, h⟩ := Option.bind_eq_some_iff.1 h
   obtain ⟨b85, o86, cs87, r89, e90, nb91, k88⟩ := q82.at_ hy84
   obtain rfl := r89
   refine t1 p79.z (k88 Tryd.underlying27 Tryd.sizeOf64 s81 s80 _) rfl fun a92 p93 s94 => ?_
   refine t1 p93.z (okLdA ag64 s94 e90 rfl rfl whole) rfl fun a95 p96 s97 => ?_
   have s98 := p96.o (p93.o (p79.o (p75.o (pg70.o s45 rfl) rfl) rfl) rfl) rfl
   refine t1 p96.z (okMv s98) rfl fun a99 p100 s101 => ?_
   have s102 := p100.o (p96.o (p93.o (p79.o s77 rfl) rfl) rfl) rfl
   refine t1 p100.z (okMv s102) rfl fun a103 p104 s105 => ?_
   have s106 := p104.o s101 rfl
   have q107 := q49.mono g72.t0
   obtain ⟨y108, hy109, h⟩ := Option.bind_eq_some_iff.1 h
   obtain ⟨b110, o111, cs112, r114, e115, nb116, k113⟩ := q107.at_ hy109
   obtain rfl := r114
   refine t1 p104.z (k113 Tryd.underlying27 Tryd.sizeOf64 s106 s105 _) rfl fun a117 p118 s119 => ?_
   refine t1 p118.z (okLdA ag64 s119 e115 rfl rfl whole) rfl fun a120 p121 s122 => ?_
   have s123 := p121.o (p118.o (p104.o (p100.o s97 rfl) rfl) rfl) rfl
   refine t1 p121.z (okSNe Tryd.eqGuardType64 s123 s122 (fun w => eq64 9998 w y83 y108)) rfl fun a124 p125 s126 => ?_
   refine tN (thenN ?_)
   have s127 := p125.o (p121.o (p118.o (p104.o (p100.o s98 rfl) rfl) rfl) rfl) rfl
   have s128 := p125.o (p121.o (p118.o (p104.o s102 rfl) rfl) rfl) rfl
   have s129 := p125.o (p121.o (p118.o (p104.o (p100.o (p96.o (p93.o s81 rfl) rfl) rfl) rfl) rfl) rfl) rfl
   have s130 := p125.o (p121.o (p118.o (p104.o (p100.o (p96.o (p93.o s80 rfl) rfl) rfl) rfl) rfl) rfl) rfl
   have s131 := p125.o (p121.o (p118.o (p104.o (p100.o (p96.o s94 rfl) rfl) rfl) rfl) rfl) rfl
   have s132 := p125.o s123 rfl
   have s133 := p125.o (p121.o (p118.o s106 rfl) rfl) rfl
   have s134 := p125.o (p121.o (p118.o s105 rfl) rfl) rfl
   have s135 := p125.o (p121.o s119 rfl) rfl
   have s136 := p125.o s122 rfl
   have pg137 : Pg _ [17, 18, 19, 20, 21, 22, 23, 24, 25] _ _ := ((((((((((Pg.refl pg70.z).st p75 rfl).st p79 rfl).st p93 rfl).st p96 rfl).st p100 rfl).st p104 rfl).st p118 rfl).st p121 rfl).st p125 rfl)
   refine cnd s126 (fun hb138 => ?_) (fun hb138 => ?_)
   ·replace h := (ifP hb138).symm.trans h
    refine wp_seq ?_
    refine reg ?_
    refine s1 pg137.z (okAs cst) rfl fun a139 p140 s141 => ?_
    refine rN (thenN ?_)
    obtain rfl := Option.some.inj h
    obtain rfl := Option.some.inj oh51
    exact wp_ret (blkR (thenR (thenR (jqR (blkR (thenR (ret1 p140.z Tryd.results14 (rvT s141) ⟨_, rfl, rfl, cx73.g⟩)))))))
   replace h := (ifN hb138).symm.trans h
   refine wp_skip (blkN (thenN ?_))
   refine reg ?_
   refine s1 pg137.z (okMv s128) rfl fun a142 p143 s144 => ?_
   refine s1 p143.z (okAdd s144 cst) rfl fun a145 p146 s147 => ?_
   refine s1 p146.z (okAs s147) rfl fun a148 p149 s150 => ?_
   have s151 := p149.o (p146.o (p143.o (pg137.o s66 rfl) rfl) rfl) rfl
   have s152 := p149.o (p146.o (p143.o s127 rfl) rfl) rfl
   have s153 := p149.o (p146.o (p143.o (pg137.o (pg70.o s46 rfl) rfl) rfl) rfl) rfl
   exact rN (thenN ⟨k, Nat.lt_succ_self k, (w64 (i33 + 1)), p149.z, s151, s152, s153, s150, q82, q107, cx73, h⟩)
  replace h := (ifN hb71).symm.trans h
  obtain rfl := Option.some.inj h
  have s154 := pg70.o s46 rfl
  exact wp_exit (thenE (thenE (jqE ⟨_, rfl, pg70.z, s154, cx50⟩)))
 clear ho35
 rintro a155 w156 ⟨g36, rfl, z157, s158, cx159⟩
 refine blkE (thenN ?_)
 refine wp_seq ?_
 refine reg ?_
 refine s1 z157 (okAs cst) rfl fun a160 p161 s162 => ?_
 refine rN (thenN ?_)
 obtain rfl := Option.some.inj h
 exact wp_ret (ret1 p161.z Tryd.results14 (rvT s162) ⟨_, rfl, rfl, cx159.g⟩)

set_option maxHeartbeats 4000000 in
set_option maxRecDepth 100000 in
theorem c17 (k : Nat) (L : List Nat) (w : World) (hL : ∀ b ∈ L, b < w.heap.size) (x0 : List Int) (h0 : Value) (qh0 : RdS (KInt .i64) L w h0 x0) (x1 : List Int) (h1 : Value) (qh1 : RdS (KInt .i64) L w h1 x1) (r : Bool) (h : tholeref20_Ints k x0 x1 = some r) : Calls Tryd.prog 17 #[h0, h1] w (fun e w' => ∃ v, e = .returned v ∧ v = .bool r ∧ G [] w w') := by
 refine enterF Tryd.func17 rfl rfl fun a0 z0 A => ?_
 have s0_0 := A 0 (h0) rfl
 have s0_1 := A 1 (h1) rfl
 clear A
 have c0 : Cx [] w L w := ⟨G.refl _ _, hL⟩
 unfold tholeref20_Ints at h
 refine wp_seq ?_
 refine reg ?_
 refine s1 z0 (okAs cst) rfl fun a1 p2 s3 => ?_
 refine rN (thenN ?_)
 refine wp_seq ?_
 refine wp_seq ?_
 refine reg ?_
 have s4 := p2.o s0_0 rfl
 refine s1 p2.z (okMv s4) rfl fun a5 p6 s7 => ?_
 refine s1 p6.z (okLenR Tryd.underlying29 s7 qh0) rfl fun a8 p9 s10 => ?_
 have s11 := p9.o (p6.o (p2.o s0_1 rfl) rfl) rfl
 refine s1 p9.z (okMv s11) rfl fun a12 p13 s14 => ?_
 refine s1 p13.z (okLenR Tryd.underlying29 s14 qh1) rfl fun a15 p16 s17 => ?_
 have s18 := p16.o (p13.o s10 rfl) rfl
 refine s1 p16.z (okNe s18 s17) rfl fun a19 p20 s21 => ?_
 refine rN (thenN ?_)
 have s22 := p20.o (p16.o (p13.o (p9.o (p6.o s4 rfl) rfl) rfl) rfl) rfl
 have s23 := p20.o (p16.o (p13.o s11 rfl) rfl) rfl
 have s24 := p20.o (p16.o (p13.o (p9.o (p6.o s3 rfl) rfl) rfl) rfl) rfl
 have pg25 : Pg _ [4, 6, 7, 8, 9, 10] _ _ := (((((((Pg.refl z0).st p2 rfl).st p6 rfl).st p9 rfl).st p13 rfl).st p16 rfl).st p20 rfl)
 refine cnd s21 (fun hb26 => ?_) (fun hb26 => ?_)
 ·replace h := (ifP hb26).symm.trans h
  refine wp_seq ?_
  refine reg ?_
  refine s1 pg25.z (okAs cst) rfl fun a27 p28 s29 => ?_
  refine rN (thenN ?_)
  obtain rfl := Option.some.inj h
  exact wp_ret (thenR (ret1 p28.z Tryd.results17 (rvT s29) ⟨_, rfl, rfl, c0.g⟩))
 replace h := (ifN hb26).symm.trans h
 refine wp_skip (thenN ?_)
 refine wp_seq ?_
 refine wp_seq ?_
 refine reg ?_
 refine s1 pg25.z (okAs cst) rfl fun a30 p31 s32 => ?_
 refine rN (thenN ?_)
 refine wp_block ?_
 obtain ⟨o34, ho35, h⟩ := Option.bind_eq_some_iff.1 h
 have s37 := p31.o s22 rfl
 have s38 := p31.o s23 rfl
 have s39 := p31.o s24 rfl
 refine loopX (I := (fun k' a' w' => ∃ i33, Z Tryd.f17.ntmps a' ∧ a'.eval (.tmp 0) = h0 ∧ a'.eval (.tmp 1) = h1 ∧ a'.eval (.tmp 4) = .bool false ∧ a'.eval (.tmp 5) = .int .i64 i33 ∧ RdS (KInt .i64) L w' h0 x0 ∧ RdS (KInt .i64) L w' h1 x1 ∧ Cx [] w L w' ∧ tholeref20_Ints.l0 x0 x1 k' i33 = some o34)) 0 (fun a' w' => ∃ g36, o34 = .go g36 ∧ Z Tryd.f17.ntmps a' ∧ a'.eval (.tmp 4) = .bool false ∧ Cx [] w L w') ⟨0, p31.z, s37, s38, s39, s32, qh0, qh1, c0, ho35⟩ ?_ ?_
 ·have oh51 := h; clear h ho35
  rintro k40 a41 w42 ⟨i33, z43, s44, s45, s46, s47, q48, q49, cx50, h⟩
  obtain _ | k := k40
  case zero => cases h
  rw [tholeref20_Ints.l0] at h
  refine wp_seq ?_
  refine wp_seq ?_
  refine reg ?_
  refine s1 z43 (okMv s47) rfl fun a52 p53 s54 => ?_
  have s55 := p53.o s44 rfl
  refine s1 p53.z (okMv s55) rfl fun a56 p57 s58 => ?_
  refine s1 p57.z (okLenR Tryd.underlying29 s58 q48) rfl fun a59 p60 s61 => ?_
  have s62 := p60.o (p57.o s54 rfl) rfl
  refine s1 p60.z (okLt s62 s61) rfl fun a63 p64 s65 => ?_
  refine rN (thenN ?_)
  have s66 := p64.o (p60.o (p57.o s55 rfl) rfl) rfl
  have s67 := p64.o s62 rfl
  have s68 := p64.o (p60.o s58 rfl) rfl
  have s69 := p64.o s61 rfl
  have pg70 : Pg _ [11, 12, 13, 14] _ _ := (((((Pg.refl z43).st p53 rfl).st p57 rfl).st p60 rfl).st p64 rfl)
  refine cnd s65 (fun hb71 => ?_) (fun hb71 => ?_)
  ·replace h := (ifP hb71).symm.trans h
   refine wp_skip (thenN ?_)
   refine wp_seq ?_
   refine wp_block ?_
   refine wp_seq ?_
   refine regS mixed (by kernel_rfl) ?_
   have g72 := G.drew w42
   have cx73 := cx50.ca g72
   refine t1 pg70.z (okMv s66) rfl fun a74 p75 s76 => ?_
   have s77 := p75.o (pg70.o s47 rfl) rfl
   refine t1 p75.z (okMv s77) rfl fun a78 p79 s80 => ?_
   have s81 := p79.o s76 rfl
   have q82 := q48.mono g72.t0
   obtain ⟨y83, hy84, h⟩ := Option.bind_eq_some_iff.1 h
   obtain ⟨b85, o86, cs87, r89, e90, nb91, k88⟩ := q82.at_ hy84
   obtain rfl := r89
   refine t1 p79.z (k88 Tryd.underlying29 Tryd.sizeOf3 s81 s80 _) rfl fun a92 p93 s94 => ?_
   refine t1 p93.z (okLd (j := 0) na3 s94 e90 rfl rfl) rfl fun a95 p96 s97 => ?_
   have s98 := p96.o (p93.o (p79.o (p75.o (pg70.o s45 rfl) rfl) rfl) rfl) rfl
   refine t1 p96.z (okMv s98) rfl fun a99 p100 s101 => ?_
   have s102 := p100.o (p96.o (p93.o (p79.o s77 rfl) rfl) rfl) rfl
   refine t1 p100.z (okMv s102) rfl fun a103 p104 s105 => ?_
   have s106 := p104.o s101 rfl
   have q107 := q49.mono g72.t0
   obtain ⟨y108, hy109, h⟩ := Option.bind_eq_some_iff.1 h
   obtain ⟨b110, o111, cs112, r114, e115, nb116, k113⟩ := q107.at_ hy109
   obtain rfl := r114
   refine t1 p104.z (k113 Tryd.underlying29 Tryd.sizeOf3 s106 s105 _) rfl fun a117 p118 s119 => ?_
   refine t1 p118.z (okLd (j := 0) na3 s119 e115 rfl rfl) rfl fun a120 p121 s122 => ?_
   have s123 := p121.o (p118.o (p104.o (p100.o s97 rfl) rfl) rfl) rfl
   refine t1 p121.z (okNe s123 s122) rfl fun a124 p125 s126 => ?_
   refine tN (thenN ?_)
   have s127 := p125.o (p121.o (p118.o (p104.o (p100.o s98 rfl) rfl) rfl) rfl) rfl
   have s128 := p125.o (p121.o (p118.o (p104.o s102 rfl) rfl) rfl) rfl
   have s129 := p125.o (p121.o (p118.o (p104.o (p100.o (p96.o (p93.o s81 rfl) rfl) rfl) rfl) rfl) rfl) rfl
   have s130 := p125.o (p121.o (p118.o (p104.o (p100.o (p96.o (p93.o s80 rfl) rfl) rfl) rfl) rfl) rfl) rfl
   have s131 := p125.o (p121.o (p118.o (p104.o (p100.o (p96.o s94 rfl) rfl) rfl) rfl) rfl) rfl
   have s132 := p125.o s123 rfl
   have s133 := p125.o (p121.o (p118.o s106 rfl) rfl) rfl
   have s134 := p125.o (p121.o (p118.o s105 rfl) rfl) rfl
   have s135 := p125.o (p121.o s119 rfl) rfl
   have s136 := p125.o s122 rfl
   have pg137 : Pg _ [17, 18, 19, 20, 21, 22, 23, 24, 25] _ _ := ((((((((((Pg.refl pg70.z).st p75 rfl).st p79 rfl).st p93 rfl).st p96 rfl).st p100 rfl).st p104 rfl).st p118 rfl).st p121 rfl).st p125 rfl)
   refine cnd s126 (fun hb138 => ?_) (fun hb138 => ?_)
   ·replace h := (ifP hb138).symm.trans h
    refine wp_seq ?_
    refine reg ?_
    refine s1 pg137.z (okAs cst) rfl fun a139 p140 s141 => ?_
    refine rN (thenN ?_)
    obtain rfl := Option.some.inj h
    obtain rfl := Option.some.inj oh51
    exact wp_ret (blkR (thenR (thenR (jqR (blkR (thenR (ret1 p140.z Tryd.results17 (rvT s141) ⟨_, rfl, rfl, cx73.g⟩)))))))
   replace h := (ifN hb138).symm.trans h
   refine wp_skip (blkN (thenN ?_))
   refine reg ?_
   refine s1 pg137.z (okMv s128) rfl fun a142 p143 s144 => ?_
   refine s1 p143.z (okAdd s144 cst) rfl fun a145 p146 s147 => ?_
   refine s1 p146.z (okAs s147) rfl fun a148 p149 s150 => ?_
   have s151 := p149.o (p146.o (p143.o (pg137.o s66 rfl) rfl) rfl) rfl
   have s152 := p149.o (p146.o (p143.o s127 rfl) rfl) rfl
   have s153 := p149.o (p146.o (p143.o (pg137.o (pg70.o s46 rfl) rfl) rfl) rfl) rfl
   exact rN (thenN ⟨k, Nat.lt_succ_self k, (w64 (i33 + 1)), p149.z, s151, s152, s153, s150, q82, q107, cx73, h⟩)
  replace h := (ifN hb71).symm.trans h
  obtain rfl := Option.some.inj h
  have s154 := pg70.o s46 rfl
  exact wp_exit (thenE (thenE (jqE ⟨_, rfl, pg70.z, s154, cx50⟩)))
 clear ho35
 rintro a155 w156 ⟨g36, rfl, z157, s158, cx159⟩
 refine blkE (thenN ?_)
 refine wp_seq ?_
 refine reg ?_
 refine s1 z157 (okAs cst) rfl fun a160 p161 s162 => ?_
 refine rN (thenN ?_)
 obtain rfl := Option.some.inj h
 exact wp_ret (ret1 p161.z Tryd.results17 (rvT s162) ⟨_, rfl, rfl, cx159.g⟩)

set_option maxHeartbeats 4000000 in
set_option maxRecDepth 100000 in
theorem c4 (k : Nat) (L : List Nat) (w : World) (hL : ∀ b ∈ L, b < w.heap.size) (vT : TabA L w) (x0 : List TEvent) (h0 : Value) (qh0 : RdS KTEvent L w h0 x0) (x1 : List TEvent) (h1 : Value) (qh1 : RdS KTEvent L w h1 x1) (x2 : Int) (r : Bool) (h : tholelaw20_HistParts k x0 x1 x2 = some r) : Calls Tryd.prog 4 #[h0, h1, .int .i64 x2] w (fun e w' => ∃ v, e = .returned v ∧ v = .bool r ∧ G [] w w') := by
 refine enterF Tryd.func4 rfl rfl fun a0 z0 A => ?_
 have s0_0 := A 0 (h0) rfl
 have s0_1 := A 1 (h1) rfl
 have s0_2 := A 2 (.int .i64 x2) rfl
 clear A
 have c0 : Cx [] w L w := ⟨G.refl _ _, hL⟩
 unfold tholelaw20_HistParts at h
 refine wp_seq ?_
 refine reg ?_
 refine s1 z0 (okAs cst) rfl fun a1 p2 s3 => ?_
 refine rN (thenN ?_)
 refine wp_seq ?_
 refine reg ?_
 obtain ⟨t4, ht5, h⟩ := Option.bind_eq_some_iff.1 h
 refine lS (oCall p2.z Tryd.call12 (ag0 ) (c12 k L w c0.lt vT _ ht5) rfl fun v9 a6 w7 hp10 p8 sp8 => ?_)
 obtain ⟨rfl, g11⟩ := hp10
 have cx12 := c0.ca g11
 refine s1 p8.z (okAs sp8) rfl fun a13 p14 s15 => ?_
 refine rN (thenN ?_)
 refine wp_seq ?_
 refine wp_seq ?_
 refine reg ?_
 have s16 := p14.o (p8.o (p2.o s0_0 rfl) rfl) rfl
 refine s1 p14.z (okMv s16) rfl fun a17 p18 s19 => ?_
 have q20 := qh0.mono g11.t0
 refine s1 p18.z (okLenR Tryd.underlying22 s19 q20) rfl fun a21 p22 s23 => ?_
 refine s1 p22.z (okGt s23 cst) rfl fun a24 p25 s26 => ?_
 refine s1 p25.z (okMv s26) rfl fun a27 p28 s29 => ?_
 refine cutP 4 (fun a' => Pg Tryd.f4.ntmps [20, 21, 22, 23] a27 a' ∧ a'.eval (.tmp 23) = .bool ((decide (3000 < (x0.length : Int))) || (decide (3000 < (x1.length : Int))))) ?_ ?_
 ·rcases bf (decide (3000 < (x0.length : Int))) with hb30 | hb30
  ·have s31 := bv s29 hb30
   have s32 := p28.o (p25.o (p22.o (p18.o (p14.o (p8.o (p2.o s0_1 rfl) rfl) rfl) rfl) rfl) rfl) rfl
   refine s1g p28.z (okMv s32) rfl (yd p28.z rfl rfl s31) fun a33 p34 s35 => ?_
   have s36 := p34.o s31 rfl
   have q37 := qh1.mono g11.t0
   refine s1g p34.z (okLenR Tryd.underlying22 s35 q37) rfl (yd p34.z rfl rfl s36) fun a38 p39 s40 => ?_
   have s41 := p39.o s36 rfl
   refine s1g p39.z (okGt s40 cst) rfl (yd p39.z rfl rfl s41) fun a42 p43 s44 => ?_
   have s45 := p43.o s41 rfl
   refine s1 p43.z (okPickF s45 s44) rfl fun a46 p47 s48 => ?_
   exact rN ⟨rfl, rfl, (((((Pg.refl p28.z).st p34 rfl).st p39 rfl).st p43 rfl).st p47 rfl), (orF hb30 s48)⟩
  ·have s49 := bv s29 hb30
   refine s1k p28.z rfl (yd p28.z rfl rfl s49) rfl fun a50 p51 s52 => ?_
   have s53 := p51.o s49 rfl
   refine s1k p51.z rfl (yd p51.z rfl rfl s53) rfl fun a54 p55 s56 => ?_
   have s57 := p55.o s53 rfl
   refine s1k p55.z rfl (yd p55.z rfl rfl s57) rfl fun a58 p59 s60 => ?_
   have s61 := p59.o s57 rfl
   refine s1 p59.z (okPickT s61 cst) rfl fun a62 p63 s64 => ?_
   exact rN ⟨rfl, rfl, (((((Pg.refl p28.z).st p51 rfl).st p55 rfl).st p59 rfl).st p63 rfl), (orT hb30 s64)⟩
 rintro a65 ⟨pg66, s67⟩
 refine rN (thenN ?_)
 have s68 := pg66.o (p28.o (p25.o (p22.o (p18.o s16 rfl) rfl) rfl) rfl) rfl
 have s69 := pg66.o (p28.o (p25.o (p22.o (p18.o (p14.o (p8.o s3 rfl) rfl) rfl) rfl) rfl) rfl) rfl
 have s70 := pg66.o (p28.o (p25.o (p22.o (p18.o s15 rfl) rfl) rfl) rfl) rfl
 have pg71 : Pg _ [6, 7, 15, 16, 17, 18, 19, 20, 21, 22, 23] _ _ := (((((((((Pg.refl z0).st p2 rfl).st p8 rfl).st p14 rfl).st p18 rfl).st p22 rfl).st p25 rfl).st p28 rfl).tr pg66 rfl)
 refine cnd s67 (fun hb72 => ?_) (fun hb72 => ?_)
 ·replace h := (ifP hb72).symm.trans h
  refine wp_seq ?_
  refine reg ?_
  refine s1 pg71.z (okMv s70) rfl fun a73 p74 s75 => ?_
  refine s1 p74.z (okAs s75) rfl fun a76 p77 s78 => ?_
  refine rN (thenN ?_)
  obtain rfl := Option.some.inj h
  exact wp_ret (thenR (ret1 p77.z Tryd.results4 (rvT s78) ⟨_, rfl, rfl, cx12.g⟩))
 replace h := (ifN hb72).symm.trans h
 refine wp_skip (thenN ?_)
 refine wp_seq ?_
 refine reg ?_
 refine lS (oBS (K := KTEvent) (L := L) (xs := []) (C := []) pg71.z (pb0 ) (bs22_0_ ) rfl rfl (fun _ _ _ h => by simp at h) rfl rfl fun a79 v80 w81 p82 sp82 q83 g84 f85 => ?_)
 have f86 := frN f85
 have nb87 := nbA hL cx12.g.sz (fun _ h => nilO h) f86
 have sf88 := sfA (S := []) cx12.g.sz (fun _ h => nilO h) f86
 have cx89 := cx12.ap g84 (fun _ h => nilO h) q83
 have s90 := p82.o s68 rfl
 refine s1 p82.z (okMv s90) rfl fun a91 p92 s93 => ?_
 have s94 := p92.o sp82 rfl
 obtain ⟨z95, hz96, h⟩ := Option.bind_eq_some_iff.1 h
 have q97 := q20.mono (tAp g84 (fun _ h => nilO h) f86)
 refine lS (oApp (K := KTEvent) (L := (ownB v80 ++ L)) Tryd.underlying22 ti38 rfl p92.z s94 s93 q83 q97.src hz96 (fun _ h => (List.mem_append_left _ h)) rfl fun a98 v99 w100 p101 sp101 q102 g103 f104 => ?_)
 have nb105 := nbA hL cx89.g.sz nb87 f104
 have sf106 := sfA (S := []) cx89.g.sz sf88 f104
 have cx107 := cx89.ap g103 sf88 q102
 have cx108 := cx107.sub (fun i h => (List.mem_append.1 h).elim (fun h => (List.mem_append_left _ h)) (fun h => (List.mem_append_right _ (List.mem_append_right _ h))))
 have q109 := q102.sub (fun i h => (List.mem_append.1 h).elim (fun h => (List.mem_append_left _ h)) (fun h => (List.mem_append_right _ (List.mem_append_right _ h))))
 have s110 := p101.o (p92.o (p82.o (pg71.o s0_1 rfl) rfl) rfl) rfl
 refine s1 p101.z (okMv s110) rfl fun a111 p112 s113 => ?_
 have s114 := p112.o sp101 rfl
 obtain ⟨z115, hz116, h⟩ := Option.bind_eq_some_iff.1 h
 have q117 := qh1.mono ((g11.t0.trans (tAp g84 (fun _ h => nilO h) f86)).trans (Tr.sub (tAp g103 (fun _ h => (List.mem_append_left _ h)) f104) (fun i h => (List.mem_append.1 h).elim (fun h => (List.mem_append_left _ h)) (fun h => (List.mem_append_right _ (List.mem_append_right _ h))))))
 refine lS (oApp (K := KTEvent) (L := (ownB v99 ++ L)) Tryd.underlying22 ti38 rfl p112.z s114 s113 q109 q117.src hz116 (fun _ h => (List.mem_append_left _ h)) rfl fun a118 v119 w120 p121 sp121 q122 g123 f124 => ?_)
 have nb125 := nbA hL cx108.g.sz nb105 f124
 have sf126 := sfA (S := []) cx108.g.sz sf106 f124
 have cx127 := cx108.ap g123 sf106 q122
 have cx128 := cx127.sub (fun i h => (List.mem_append.1 h).elim (fun h => (List.mem_append_left _ h)) (fun h => (List.mem_append_right _ (List.mem_append_right _ h))))
 have q129 := q122.sub (fun i h => (List.mem_append.1 h).elim (fun h => (List.mem_append_left _ h)) (fun h => (List.mem_append_right _ (List.mem_append_right _ h))))
 refine s1 p121.z (okAs sp121) rfl fun a130 p131 s132 => ?_
 refine rN (thenN ?_)
 refine wp_seq ?_
 refine reg ?_
 have s133 := p131.o (p121.o (p112.o (p101.o (p92.o s90 rfl) rfl) rfl) rfl) rfl
 refine s1 p131.z (okMv s133) rfl fun a134 p135 s136 => ?_
 have q137 := q97.mono ((Tr.sub (tAp g103 (fun _ h => (List.mem_append_left _ h)) f104) (fun i h => (List.mem_append.1 h).elim (fun h => (List.mem_append_left _ h)) (fun h => (List.mem_append_right _ (List.mem_append_right _ h))))).trans (Tr.sub (tAp g123 (fun _ h => (List.mem_append_left _ h)) f124) (fun i h => (List.mem_append.1 h).elim (fun h => (List.mem_append_left _ h)) (fun h => (List.mem_append_right _ (List.mem_append_right _ h))))))
 obtain ⟨t138, ht139, h⟩ := Option.bind_eq_some_iff.1 h
 refine lS (oCall p135.z Tryd.call13 (ag2 cst s136) (c13 k (ownB v119 ++ L) w120 cx128.lt _ _ _ q137 _ ht139) rfl fun v143 a140 w141 hp144 p142 sp142 => ?_)
 obtain ⟨q145, g146⟩ := hp144
 have cx147 := cx128.ca g146
 refine s1 p142.z (okAs sp142) rfl fun a148 p149 s150 => ?_
 refine rN (thenN ?_)
 refine wp_seq ?_
 refine reg ?_
 have s151 := p149.o (p142.o (p135.o (p131.o (p121.o (p112.o s110 rfl) rfl) rfl) rfl) rfl) rfl
 refine s1 p149.z (okMv s151) rfl fun a152 p153 s154 => ?_
 have q155 := q117.mono ((Tr.sub (tAp g123 (fun _ h => (List.mem_append_left _ h)) f124) (fun i h => (List.mem_append.1 h).elim (fun h => (List.mem_append_left _ h)) (fun h => (List.mem_append_right _ (List.mem_append_right _ h))))).trans g146.t0)
 obtain ⟨t156, ht157, h⟩ := Option.bind_eq_some_iff.1 h
 refine lS (oCall p153.z Tryd.call13 (ag2 cst s154) (c13 k (ownB v119 ++ L) w141 cx147.lt _ _ _ q155 _ ht157) rfl fun v161 a158 w159 hp162 p160 sp160 => ?_)
 obtain ⟨q163, g164⟩ := hp162
 have cx165 := cx147.ca g164
 refine s1 p160.z (okAs sp160) rfl fun a166 p167 s168 => ?_
 refine rN (thenN ?_)
 refine wp_seq ?_
 refine reg ?_
 have s169 := p167.o (p160.o (p153.o (p149.o (p142.o (p135.o s132 rfl) rfl) rfl) rfl) rfl) rfl
 refine s1 p167.z (okMv s169) rfl fun a170 p171 s172 => ?_
 have q173 := (q129.t0 g146.t0 g146).t0 g164.t0 g164
 have q174 : RdS KTEvent L w159 v119 z115 := q173.rd (fun i h => (List.mem_append_right _ h)) (fun b hb => nb125 _ hb)
 have cx175 := cx165.sub (fun i h => (List.mem_append_right _ h))
 obtain ⟨t176, ht177, h⟩ := Option.bind_eq_some_iff.1 h
 refine lS (oCall p171.z Tryd.call13 (ag2 cst s172) (c13 k L w159 cx175.lt _ _ _ q174 _ ht177) rfl fun v181 a178 w179 hp182 p180 sp180 => ?_)
 obtain ⟨q183, g184⟩ := hp182
 have cx185 := cx175.ca g184
 refine s1 p180.z (okAs sp180) rfl fun a186 p187 s188 => ?_
 refine rN (thenN ?_)
 refine wp_seq ?_
 refine wp_seq ?_
 refine reg ?_
 refine s1 p187.z (okAs cst) rfl fun a189 p190 s191 => ?_
 refine rN (thenN ?_)
 refine wp_block ?_
 obtain ⟨o193, ho194, h⟩ := Option.bind_eq_some_iff.1 h
 have s196 := p190.o (p187.o (p180.o (p171.o (p167.o (p160.o (p153.o (p149.o (p142.o (p135.o s133 rfl) rfl) rfl) rfl) rfl) rfl) rfl) rfl) rfl) rfl
 have s197 := p190.o (p187.o (p180.o (p171.o (p167.o (p160.o (p153.o s151 rfl) rfl) rfl) rfl) rfl) rfl) rfl
 have s198 := p190.o (p187.o (p180.o (p171.o (p167.o (p160.o (p153.o (p149.o (p142.o (p135.o (p131.o (p121.o (p112.o (p101.o (p92.o (p82.o (pg71.o s0_2 rfl) rfl) rfl) rfl) rfl) rfl) rfl) rfl) rfl) rfl) rfl) rfl) rfl) rfl) rfl) rfl) rfl
 have s199 := p190.o (p187.o (p180.o (p171.o (p167.o (p160.o (p153.o (p149.o (p142.o (p135.o (p131.o (p121.o (p112.o (p101.o (p92.o (p82.o s69 rfl) rfl) rfl) rfl) rfl) rfl) rfl) rfl) rfl) rfl) rfl) rfl) rfl) rfl) rfl) rfl
 have s200 := p190.o (p187.o (p180.o (p171.o (p167.o (p160.o (p153.o (p149.o (p142.o (p135.o (p131.o (p121.o (p112.o (p101.o (p92.o (p82.o s70 rfl) rfl) rfl) rfl) rfl) rfl) rfl) rfl) rfl) rfl) rfl) rfl) rfl) rfl) rfl) rfl
 have s201 := p190.o (p187.o (p180.o (p171.o s169 rfl) rfl) rfl) rfl
 have s202 := p190.o (p187.o (p180.o (p171.o (p167.o (p160.o (p153.o s150 rfl) rfl) rfl) rfl) rfl) rfl) rfl
 have s203 := p190.o (p187.o (p180.o (p171.o s168 rfl) rfl) rfl) rfl
 have s204 := p190.o s188 rfl
 have q205 := q137.mono (((g146.t0.trans g164.t0).trans ((Tr.refl (ownB v119 ++ L) w159).sub (fun i h => (List.mem_append_right _ h)))).trans g184.t0)
 have q206 := q155.mono ((g164.t0.trans ((Tr.refl (ownB v119 ++ L) w159).sub (fun i h => (List.mem_append_right _ h)))).trans g184.t0)
 have q207 := q174.mono g184.t0
 have q208 := q145.mono ((g164.t0.trans ((Tr.refl (ownB v119 ++ L) w159).sub (fun i h => (List.mem_append_right _ h)))).trans g184.t0)
 have q209 := q163.mono (((Tr.refl (ownB v119 ++ L) w159).sub (fun i h => (List.mem_append_right _ h))).trans g184.t0)
 have q210 := vT.mono (((((((g11.t0.trans (tAp g84 (fun _ h => nilO h) f86)).trans (Tr.sub (tAp g103 (fun _ h => (List.mem_append_left _ h)) f104) (fun i h => (List.mem_append.1 h).elim (fun h => (List.mem_append_left _ h)) (fun h => (List.mem_append_right _ (List.mem_append_right _ h)))))).trans (Tr.sub (tAp g123 (fun _ h => (List.mem_append_left _ h)) f124) (fun i h => (List.mem_append.1 h).elim (fun h => (List.mem_append_left _ h)) (fun h => (List.mem_append_right _ (List.mem_append_right _ h)))))).trans g146.t0).trans g164.t0).trans ((Tr.refl (ownB v119 ++ L) w159).sub (fun i h => (List.mem_append_right _ h)))).trans g184.t0)
 refine loopX (I := (fun k' a' w' => ∃ i192, Z Tryd.f4.ntmps a' ∧ a'.eval (.tmp 0) = h0 ∧ a'.eval (.tmp 1) = h1 ∧ a'.eval (.tmp 2) = .int .i64 x2 ∧ a'.eval (.tmp 6) = .bool false ∧ a'.eval (.tmp 7) = .bool t4 ∧ a'.eval (.tmp 8) = v119 ∧ a'.eval (.tmp 9) = v143 ∧ a'.eval (.tmp 10) = v161 ∧ a'.eval (.tmp 11) = v181 ∧ a'.eval (.tmp 12) = .int .i64 i192 ∧ RdS KTEvent L w' h0 x0 ∧ RdS KTEvent L w' h1 x1 ∧ RdS KTEvent L w' v119 z115 ∧ RdS (KSl KTResult) L w' v143 t138 ∧ RdS (KSl KTResult) L w' v161 t156 ∧ RdS (KSl KTResult) L w' v181 t176 ∧ TabA L w' ∧ Cx [] w L w' ∧ tholelaw20_HistParts.l0 x0 z115 k' i192 = some o193)) 0 (fun a' w' => ∃ g195, o193 = .go g195 ∧ Z Tryd.f4.ntmps a' ∧ a'.eval (.tmp 0) = h0 ∧ a'.eval (.tmp 1) = h1 ∧ a'.eval (.tmp 2) = .int .i64 x2 ∧ a'.eval (.tmp 6) = .bool false ∧ a'.eval (.tmp 7) = .bool t4 ∧ a'.eval (.tmp 8) = v119 ∧ a'.eval (.tmp 9) = v143 ∧ a'.eval (.tmp 10) = v161 ∧ a'.eval (.tmp 11) = v181 ∧ RdS KTEvent L w' h0 x0 ∧ RdS KTEvent L w' h1 x1 ∧ RdS KTEvent L w' v119 z115 ∧ RdS (KSl KTResult) L w' v143 t138 ∧ RdS (KSl KTResult) L w' v161 t156 ∧ RdS (KSl KTResult) L w' v181 t176 ∧ TabA L w' ∧ Cx [] w L w') ⟨0, p190.z, s196, s197, s198, s199, s200, s201, s202, s203, s204, s191, q205, q206, q207, q208, q209, q183, q210, cx185, ho194⟩ ?_ ?_
 ·have oh233 := h; clear h ho194
  rintro k211 a212 w213 ⟨i192, z214, s215, s216, s217, s218, s219, s220, s221, s222, s223, s224, q225, q226, q227, q228, q229, q230, q231, cx232, h⟩
  obtain _ | k := k211
  case zero => cases h
  rw [tholelaw20_HistParts.l0] at h
  refine wp_seq ?_
  refine wp_seq ?_
  refine reg ?_
  refine s1 z214 (okMv s224) rfl fun a234 p235 s236 => ?_
  have s237 := p235.o s215 rfl
  refine s1 p235.z (okMv s237) rfl fun a238 p239 s240 => ?_
  refine s1 p239.z (okLenR Tryd.underlying22 s240 q225) rfl fun a241 p242 s243 => ?_
  have s244 := p242.o (p239.o s236 rfl) rfl
  refine s1 p242.z (okLt s244 s243) rfl fun a245 p246 s247 => ?_
  refine rN (thenN ?_)
  have s248 := p246.o (p242.o (p239.o s237 rfl) rfl) rfl
  have s249 := p246.o s244 rfl
  have s250 := p246.o (p242.o s240 rfl) rfl
  have s251 := p246.o s243 rfl
  have pg252 : Pg _ [36, 37, 38, 39] _ _ := (((((Pg.refl z214).st p235 rfl).st p239 rfl).st p242 rfl).st p246 rfl)
  refine cnd s247 (fun hb253 => ?_) (fun hb253 => ?_)
  ·replace h := (ifP hb253).symm.trans h
   refine wp_skip (thenN ?_)
   refine wp_seq ?_
   refine wp_block ?_
   refine wp_seq ?_
   refine regS mixed (by kernel_rfl) ?_
   have g254 := G.drew w213
   have cx255 := cx232.ca g254
   have s256 := pg252.o s220 rfl
   refine t1 pg252.z (okMv s256) rfl fun a257 p258 s259 => ?_
   have s260 := p258.o (pg252.o s224 rfl) rfl
   refine t1 p258.z (okMv s260) rfl fun a261 p262 s263 => ?_
   have s264 := p262.o s259 rfl
   have q265 := q227.mono g254.t0
   obtain ⟨y266, hy267, h⟩ := Option.bind_eq_some_iff.1 h
   obtain ⟨b268, o269, cs270, r272, e273, nb274, k271⟩ := q265.at_ hy267
   obtain rfl := r272
   refine t1 p262.z (k271 Tryd.underlying22 Tryd.sizeOf38 s264 s263 _) rfl fun a275 p276 s277 => ?_
   refine t1 p276.z (okLdA ag38 s277 e273 rfl rfl whole) rfl fun a278 p279 s280 => ?_
   have s281 := p279.o (p276.o (p262.o (p258.o s248 rfl) rfl) rfl) rfl
   refine t1 p279.z (okMv s281) rfl fun a282 p283 s284 => ?_
   have s285 := p283.o (p279.o (p276.o (p262.o s260 rfl) rfl) rfl) rfl
   refine t1 p283.z (okMv s285) rfl fun a286 p287 s288 => ?_
   have s289 := p287.o s284 rfl
   have q290 := q225.mono g254.t0
   obtain ⟨y291, hy292, h⟩ := Option.bind_eq_some_iff.1 h
   obtain ⟨b293, o294, cs295, r297, e298, nb299, k296⟩ := q290.at_ hy292
   obtain rfl := r297
   refine t1 p287.z (k296 Tryd.underlying22 Tryd.sizeOf38 s289 s288 _) rfl fun a300 p301 s302 => ?_
   refine t1 p301.z (okLdA ag38 s302 e298 rfl rfl whole) rfl fun a303 p304 s305 => ?_
   have s306 := p304.o (p301.o (p287.o (p283.o s280 rfl) rfl) rfl) rfl
   refine t1 p304.z (okSNe Tryd.eqGuardType38 s306 s305 (fun w => eq38 9997 w y266 y291)) rfl fun a307 p308 s309 => ?_
   refine tN (thenN ?_)
   have s310 := p308.o (p304.o (p301.o (p287.o (p283.o s281 rfl) rfl) rfl) rfl) rfl
   have s311 := p308.o (p304.o (p301.o (p287.o s285 rfl) rfl) rfl) rfl
   have s312 := p308.o (p304.o (p301.o (p287.o (p283.o (p279.o (p276.o s264 rfl) rfl) rfl) rfl) rfl) rfl) rfl
   have s313 := p308.o (p304.o (p301.o (p287.o (p283.o (p279.o (p276.o s263 rfl) rfl) rfl) rfl) rfl) rfl) rfl
   have s314 := p308.o (p304.o (p301.o (p287.o (p283.o (p279.o s277 rfl) rfl) rfl) rfl) rfl) rfl
   have s315 := p308.o s306 rfl
   have s316 := p308.o (p304.o (p301.o s289 rfl) rfl) rfl
   have s317 := p308.o (p304.o (p301.o s288 rfl) rfl) rfl
   have s318 := p308.o (p304.o s302 rfl) rfl
   have s319 := p308.o s305 rfl
   have pg320 : Pg _ [42, 43, 44, 45, 46, 47, 48, 49, 50] _ _ := ((((((((((Pg.refl pg252.z).st p258 rfl).st p262 rfl).st p276 rfl).st p279 rfl).st p283 rfl).st p287 rfl).st p301 rfl).st p304 rfl).st p308 rfl)
   refine cnd s309 (fun hb321 => ?_) (fun hb321 => ?_)
   ·replace h := (ifP hb321).symm.trans h
    refine wp_seq ?_
    refine reg ?_
    refine s1 pg320.z (okAs cst) rfl fun a322 p323 s324 => ?_
    refine rN (thenN ?_)
    obtain rfl := Option.some.inj h
    obtain rfl := Option.some.inj oh233
    exact wp_ret (blkR (thenR (thenR (jqR (blkR (thenR (ret1 p323.z Tryd.results4 (rvT s324) ⟨_, rfl, rfl, cx255.g⟩)))))))
   replace h := (ifN hb321).symm.trans h
   refine wp_skip (blkN (thenN ?_))
   refine reg ?_
   refine s1 pg320.z (okMv s311) rfl fun a325 p326 s327 => ?_
   refine s1 p326.z (okAdd s327 cst) rfl fun a328 p329 s330 => ?_
   refine s1 p329.z (okAs s330) rfl fun a331 p332 s333 => ?_
   have s334 := p332.o (p329.o (p326.o s310 rfl) rfl) rfl
   have s335 := p332.o (p329.o (p326.o (pg320.o (pg252.o s216 rfl) rfl) rfl) rfl) rfl
   have s336 := p332.o (p329.o (p326.o (pg320.o (pg252.o s217 rfl) rfl) rfl) rfl) rfl
   have s337 := p332.o (p329.o (p326.o (pg320.o (pg252.o s218 rfl) rfl) rfl) rfl) rfl
   have s338 := p332.o (p329.o (p326.o (pg320.o (pg252.o s219 rfl) rfl) rfl) rfl) rfl
   have s339 := p332.o (p329.o (p326.o (pg320.o s256 rfl) rfl) rfl) rfl
   have s340 := p332.o (p329.o (p326.o (pg320.o (pg252.o s221 rfl) rfl) rfl) rfl) rfl
   have s341 := p332.o (p329.o (p326.o (pg320.o (pg252.o s222 rfl) rfl) rfl) rfl) rfl
   have s342 := p332.o (p329.o (p326.o (pg320.o (pg252.o s223 rfl) rfl) rfl) rfl) rfl
   have q343 := q226.mono g254.t0
   have q344 := q228.mono g254.t0
   have q345 := q229.mono g254.t0
   have q346 := q230.mono g254.t0
   have q347 := q231.mono g254.t0
   exact rN (thenN ⟨k, Nat.lt_succ_self k, (w64 (i192 + 1)), p332.z, s334, s335, s336, s337, s338, s339, s340, s341, s342, s333, q290, q343, q265, q344, q345, q346, q347, cx255, h⟩)
  replace h := (ifN hb253).symm.trans h
  obtain rfl := Option.some.inj h
  have s348 := pg252.o s216 rfl
  have s349 := pg252.o s217 rfl
  have s350 := pg252.o s218 rfl
  have s351 := pg252.o s219 rfl
  have s352 := pg252.o s220 rfl
  have s353 := pg252.o s221 rfl
  have s354 := pg252.o s222 rfl
  have s355 := pg252.o s223 rfl
  exact wp_exit (thenE (thenE (jqE ⟨_, rfl, pg252.z, s248, s348, s349, s350, s351, s352, s353, s354, s355, q225, q226, q227, q228, q229, q230, q231, cx232⟩)))
 clear ho194
 rintro a356 w357 ⟨g195, rfl, z358, s359, s360, s361, s362, s363, s364, s365, s366, s367, q368, q369, q370, q371, q372, q373, q374, cx375⟩
 refine blkE (thenN ?_)
 refine wp_seq ?_
 refine wp_seq ?_
 refine reg ?_
 refine s1 z358 (okMv s365) rfl fun a376 p377 s378 => ?_
 refine s1 p377.z (okLenR Tryd.underlying24 s378 q371) rfl fun a379 p380 s381 => ?_
 refine s1 p380.z (okNe s381 cst) rfl fun a382 p383 s384 => ?_
 refine s1 p383.z (okMv s384) rfl fun a385 p386 s387 => ?_
 refine cutP 4 (fun a' => Pg Tryd.f4.ntmps [55, 56, 57, 58] a385 a' ∧ a'.eval (.tmp 58) = .bool (((t138.length : Int) != 8) || ((t156.length : Int) != 8))) ?_ ?_
 ·rcases bf ((t138.length : Int) != 8) with hb388 | hb388
  ·have s389 := bv s387 hb388
   have s390 := p386.o (p383.o (p380.o (p377.o s366 rfl) rfl) rfl) rfl
   refine s1g p386.z (okMv s390) rfl (yd p386.z rfl rfl s389) fun a391 p392 s393 => ?_
   have s394 := p392.o s389 rfl
   refine s1g p392.z (okLenR Tryd.underlying24 s393 q372) rfl (yd p392.z rfl rfl s394) fun a395 p396 s397 => ?_
   have s398 := p396.o s394 rfl
   refine s1g p396.z (okNe s397 cst) rfl (yd p396.z rfl rfl s398) fun a399 p400 s401 => ?_
   have s402 := p400.o s398 rfl
   refine s1 p400.z (okPickF s402 s401) rfl fun a403 p404 s405 => ?_
   exact rN ⟨rfl, rfl, (((((Pg.refl p386.z).st p392 rfl).st p396 rfl).st p400 rfl).st p404 rfl), (orF hb388 s405)⟩
  ·have s406 := bv s387 hb388
   refine s1k p386.z rfl (yd p386.z rfl rfl s406) rfl fun a407 p408 s409 => ?_
   have s410 := p408.o s406 rfl
   refine s1k p408.z rfl (yd p408.z rfl rfl s410) rfl fun a411 p412 s413 => ?_
   have s414 := p412.o s410 rfl
   refine s1k p412.z rfl (yd p412.z rfl rfl s414) rfl fun a415 p416 s417 => ?_
   have s418 := p416.o s414 rfl
   refine s1 p416.z (okPickT s418 cst) rfl fun a419 p420 s421 => ?_
   exact rN ⟨rfl, rfl, (((((Pg.refl p386.z).st p408 rfl).st p412 rfl).st p416 rfl).st p420 rfl), (orT hb388 s421)⟩
 rintro a422 ⟨pg423, s424⟩
 refine s1 pg423.z (okMv s424) rfl fun a425 p426 s427 => ?_
 refine cutP 4 (fun a' => Pg Tryd.f4.ntmps [60, 61, 62, 63] a425 a' ∧ a'.eval (.tmp 63) = .bool ((((t138.length : Int) != 8) || ((t156.length : Int) != 8)) || ((t176.length : Int) != 8))) ?_ ?_
 ·rcases bf (((t138.length : Int) != 8) || ((t156.length : Int) != 8)) with hb428 | hb428
  ·have s429 := bv s427 hb428
   have s430 := p426.o (pg423.o (p386.o (p383.o (p380.o (p377.o s367 rfl) rfl) rfl) rfl) rfl) rfl
   refine s1g p426.z (okMv s430) rfl (yd p426.z rfl rfl s429) fun a431 p432 s433 => ?_
   have s434 := p432.o s429 rfl
   refine s1g p432.z (okLenR Tryd.underlying24 s433 q373) rfl (yd p432.z rfl rfl s434) fun a435 p436 s437 => ?_
   have s438 := p436.o s434 rfl
   refine s1g p436.z (okNe s437 cst) rfl (yd p436.z rfl rfl s438) fun a439 p440 s441 => ?_
   have s442 := p440.o s438 rfl
   refine s1 p440.z (okPickF s442 s441) rfl fun a443 p444 s445 => ?_
   exact rN ⟨rfl, rfl, (((((Pg.refl p426.z).st p432 rfl).st p436 rfl).st p440 rfl).st p444 rfl), (orF hb428 s445)⟩
  ·have s446 := bv s427 hb428
   refine s1k p426.z rfl (yd p426.z rfl rfl s446) rfl fun a447 p448 s449 => ?_
   have s450 := p448.o s446 rfl
   refine s1k p448.z rfl (yd p448.z rfl rfl s450) rfl fun a451 p452 s453 => ?_
   have s454 := p452.o s450 rfl
   refine s1k p452.z rfl (yd p452.z rfl rfl s454) rfl fun a455 p456 s457 => ?_
   have s458 := p456.o s454 rfl
   refine s1 p456.z (okPickT s458 cst) rfl fun a459 p460 s461 => ?_
   exact rN ⟨rfl, rfl, (((((Pg.refl p426.z).st p448 rfl).st p452 rfl).st p456 rfl).st p460 rfl), (orT hb428 s461)⟩
 rintro a462 ⟨pg463, s464⟩
 refine rN (thenN ?_)
 have pg465 : Pg _ [51, 52, 53, 54, 55, 56, 57, 58, 59, 60, 61, 62, 63] _ _ := ((((((((Pg.refl z358).st p377 rfl).st p380 rfl).st p383 rfl).st p386 rfl).tr pg423 rfl).st p426 rfl).tr pg463 rfl)
 refine cnd s464 (fun hb466 => ?_) (fun hb466 => ?_)
 ·replace h := (ifP hb466).symm.trans h
  refine wp_seq ?_
  refine reg ?_
  refine s1 pg465.z (okAs cst) rfl fun a467 p468 s469 => ?_
  refine rN (thenN ?_)
  obtain rfl := Option.some.inj h
  exact wp_ret (thenR (ret1 p468.z Tryd.results4 (rvT s469) ⟨_, rfl, rfl, cx375.g⟩))
 replace h := (ifN hb466).symm.trans h
 refine wp_skip (thenN ?_)
 refine wp_seq ?_
 refine wp_seq ?_
 refine reg ?_
 refine s1 pg465.z (okAs cst) rfl fun a470 p471 s472 => ?_
 refine rN (thenN ?_)
 refine wp_block ?_
 obtain ⟨o474, ho475, h⟩ := Option.bind_eq_some_iff.1 h
 have s477 := p471.o (pg465.o s359 rfl) rfl
 have s478 := p471.o (pg465.o s360 rfl) rfl
 have s479 := p471.o (pg465.o s361 rfl) rfl
 have s480 := p471.o (pg465.o s362 rfl) rfl
 have s481 := p471.o (pg465.o s363 rfl) rfl
 have s482 := p471.o (pg465.o s364 rfl) rfl
 have s483 := p471.o (pg465.o s365 rfl) rfl
 have s484 := p471.o (pg465.o s366 rfl) rfl
 have s485 := p471.o (pg465.o s367 rfl) rfl
 refine loopX (I := (fun k' a' w' => ∃ i473, Z Tryd.f4.ntmps a' ∧ a'.eval (.tmp 0) = h0 ∧ a'.eval (.tmp 1) = h1 ∧ a'.eval (.tmp 2) = .int .i64 x2 ∧ a'.eval (.tmp 6) = .bool false ∧ a'.eval (.tmp 7) = .bool t4 ∧ a'.eval (.tmp 8) = v119 ∧ a'.eval (.tmp 9) = v143 ∧ a'.eval (.tmp 10) = v161 ∧ a'.eval (.tmp 11) = v181 ∧ a'.eval (.tmp 13) = .int .i64 i473 ∧ RdS KTEvent L w' h0 x0 ∧ RdS KTEvent L w' h1 x1 ∧ RdS KTEvent L w' v119 z115 ∧ RdS (KSl KTResult) L w' v143 t138 ∧ RdS (KSl KTResult) L w' v161 t156 ∧ RdS (KSl KTResult) L w' v181 t176 ∧ TabA L w' ∧ Cx [] w L w' ∧ tholelaw20_HistParts.l1 t138 t156 t176 k' i473 = some o474)) 2 (fun a' w' => ∃ g476, o474 = .go g476 ∧ Z Tryd.f4.ntmps a' ∧ a'.eval (.tmp 0) = h0 ∧ a'.eval (.tmp 1) = h1 ∧ a'.eval (.tmp 2) = .int .i64 x2 ∧ a'.eval (.tmp 6) = .bool false ∧ a'.eval (.tmp 7) = .bool t4 ∧ a'.eval (.tmp 8) = v119 ∧ RdS KTEvent L w' h0 x0 ∧ RdS KTEvent L w' h1 x1 ∧ RdS KTEvent L w' v119 z115 ∧ TabA L w' ∧ Cx [] w L w') ⟨0, p471.z, s477, s478, s479, s480, s481, s482, s483, s484, s485, s472, q368, q369, q370, q371, q372, q373, q374, cx375, ho475⟩ ?_ ?_
 ·have oh508 := h; clear h ho475
  rintro k486 a487 w488 ⟨i473, z489, s490, s491, s492, s493, s494, s495, s496, s497, s498, s499, q500, q501, q502, q503, q504, q505, q506, cx507, h⟩
  obtain _ | k := k486
  case zero => cases h
  rw [tholelaw20_HistParts.l1] at h
  refine wp_seq ?_
  refine wp_seq ?_
  refine reg ?_
  refine s1 z489 (okMv s499) rfl fun a509 p510 s511 => ?_
  refine s1 p510.z (okLt s511 cst) rfl fun a512 p513 s514 => ?_
  refine rN (thenN ?_)
  refine cnd s514 (fun hb515 => ?_) (fun hb515 => ?_)
  ·replace h := (ifP hb515).symm.trans h
   refine wp_skip (thenN ?_)
   refine wp_seq ?_
   refine wp_block ?_
   refine wp_seq ?_
   obtain ⟨y525, hy526, h⟩ := Option.bind_eq_some_iff.1 h
   obtain ⟨b527, o528, cs529, r531, e532, nb533, k530⟩ := q505.at_ hy526
   obtain ⟨h534, rfl, q535⟩ := r531
   obtain ⟨y562, hy563, h⟩ := Option.bind_eq_some_iff.1 h
   obtain ⟨b564, o565, cs566, r568, e569, nb570, k567⟩ := q503.at_ hy563
   obtain ⟨h571, rfl, q572⟩ := r568
   obtain ⟨z580, hz581, h⟩ := Option.bind_eq_some_iff.1 h
   obtain ⟨y604, hy605, h⟩ := Option.bind_eq_some_iff.1 h
   obtain ⟨b606, o607, cs608, r610, e611, nb612, k609⟩ := q504.at_ hy605
   obtain ⟨h613, rfl, q614⟩ := r610
   obtain ⟨z622, hz623, h⟩ := Option.bind_eq_some_iff.1 h
   obtain ⟨t639, ht640, h⟩ := Option.bind_eq_some_iff.1 h
   have s651 := p513.o (p510.o s490 rfl) rfl
   have s652 := p513.o (p510.o s491 rfl) rfl
   have s653 := p513.o (p510.o s492 rfl) rfl
   have s654 := p513.o (p510.o s493 rfl) rfl
   have s655 := p513.o (p510.o s494 rfl) rfl
   have s656 := p513.o (p510.o s495 rfl) rfl
   have s657 := p513.o (p510.o s496 rfl) rfl
   have s658 := p513.o (p510.o s497 rfl) rfl
   have s659 := p513.o (p510.o s498 rfl) rfl
   have s660 := p513.o (p510.o s499 rfl) rfl
   have s661 := p513.o s511 rfl
   refine regJ (fun a' w' => ∃ v626, Z Tryd.f4.ntmps a' ∧ a'.eval (.tmp 0) = h0 ∧ a'.eval (.tmp 1) = h1 ∧ a'.eval (.tmp 2) = .int .i64 x2 ∧ a'.eval (.tmp 6) = .bool false ∧ a'.eval (.tmp 7) = .bool t4 ∧ a'.eval (.tmp 8) = v119 ∧ a'.eval (.tmp 9) = v143 ∧ a'.eval (.tmp 10) = v161 ∧ a'.eval (.tmp 11) = v181 ∧ a'.eval (.tmp 13) = .int .i64 i473 ∧ a'.eval (.tmp 64) = .int .i64 i473 ∧ a'.eval (.tmp 65) = .bool (decide (i473 < 8)) ∧ a'.eval (.tmp 68) = v181 ∧ a'.eval (.tmp 69) = .int .i64 i473 ∧ a'.eval (.tmp 70) = ptr b527 o528 ∧ a'.eval (.tmp 71) = h534 ∧ a'.eval (.tmp 73) = v143 ∧ a'.eval (.tmp 74) = .int .i64 i473 ∧ a'.eval (.tmp 75) = ptr b564 o565 ∧ a'.eval (.tmp 76) = h571 ∧ a'.eval (.tmp 78) = v161 ∧ a'.eval (.tmp 79) = .int .i64 i473 ∧ a'.eval (.tmp 80) = ptr b606 o607 ∧ a'.eval (.tmp 81) = h613 ∧ a'.eval (.tmp 82) = v626 ∧ a'.eval (.tmp 83) = .bool t639 ∧ a'.eval (.tmp 84) = .bool (!t639) ∧ OwnS KTResult 64 (ownB v626 ++ L) w' v626 z622 ∧ Cx [] w (ownB v626 ++ L) w' ∧ Tr L w488 (ownB v626 ++ L) w' ∧ (∀ x ∈ ownB v626, x ∉ L) ∧ (∀ x ∈ ownB v626, x ∈ [] ∨ w.heap.size ≤ x)) ?_ ?_
   ·refine regH (n := 17) [(3, fun w' => Cl w' b527 o528 [h534]), (8, fun w' => Cl w' b564 o565 [h571]), (13, fun w' => Cl w' b606 o607 [h613])] mixed rfl ?_
    have g662 := G.drew w488
    have cx663 := cx507.ca g662
    refine hTakeW (i := 0) rfl (by kernel_rfl) (by kernel_rfl) (by kernel_rfl) nrm (cond := fun _ => True) (.inl fun _ => trivial) p513.z (wN rfl) (fun _ _ => okMv s659) trivial rfl fun a664 p665 sp665 => ?_
    have s666 := p665.o s660 rfl
    refine hTakeW (i := 1) rfl (by kernel_rfl) (by kernel_rfl) (by kernel_rfl) nrm (cond := fun _ => True) (.inl fun _ => trivial) p665.z (wN rfl) (fun _ _ => okMv s666) trivial rfl fun a667 p668 sp668 => ?_
    have s669 := p668.o sp665 rfl
    have q670 := q505.mono g662.t0
    refine hTakeW (i := 2) rfl (by kernel_rfl) (by kernel_rfl) (by kernel_rfl) nrm (cond := fun _ => True) (.inl fun _ => trivial) p668.z (wN rfl) (fun _ _ => k530 Tryd.underlying24 Tryd.sizeOf27 s669 sp668 _) trivial rfl fun a678 p679 sp679 => ?_
    have e680 := e532.tr g662.t0 nb533
    refine hTakeW (i := 3) rfl (by kernel_rfl) (by kernel_rfl) (by kernel_rfl) nrm (.inr (.head _)) p679.z (wN rfl) (fun _ h => okLd (j := 0) na27 sp679 h rfl rfl) e680 rfl fun a681 p682 sp682 => ?_
    have s683 := p682.o (p679.o (p668.o (p665.o s657 rfl) rfl) rfl) rfl
    refine hTakeW (i := 5) rfl (by kernel_rfl) (by kernel_rfl) (by kernel_rfl) nrm (cond := fun _ => True) (.inl fun _ => trivial) p682.z (wN rfl) (fun _ _ => okMv s683) trivial rfl fun a684 p685 sp685 => ?_
    have s686 := p685.o (p682.o (p679.o (p668.o s666 rfl) rfl) rfl) rfl
    refine hTakeW (i := 6) rfl (by kernel_rfl) (by kernel_rfl) (by kernel_rfl) nrm (cond := fun _ => True) (.inl fun _ => trivial) p685.z (wN rfl) (fun _ _ => okMv s686) trivial rfl fun a687 p688 sp688 => ?_
    have s689 := p688.o sp685 rfl
    have q690 := q503.mono g662.t0
    refine hTakeW (i := 7) rfl (by kernel_rfl) (by kernel_rfl) (by kernel_rfl) nrm (cond := fun _ => True) (.inl fun _ => trivial) p688.z (wN rfl) (fun _ _ => k567 Tryd.underlying24 Tryd.sizeOf27 s689 sp688 _) trivial rfl fun a698 p699 sp699 => ?_
    have e700 := e569.tr g662.t0 nb570
    refine hTakeW (i := 8) rfl (by kernel_rfl) (by kernel_rfl) (by kernel_rfl) nrm (.inr (.tail _ (.head _))) p699.z (wN rfl) (fun _ h => okLd (j := 0) na27 sp699 h rfl rfl) e700 rfl fun a701 p702 sp702 => ?_
    have s703 := p702.o (p699.o (p688.o (p685.o (p682.o (p679.o (p668.o (p665.o s658 rfl) rfl) rfl) rfl) rfl) rfl) rfl) rfl
    refine hTakeW (i := 10) rfl (by kernel_rfl) (by kernel_rfl) (by kernel_rfl) nrm (cond := fun _ => True) (.inl fun _ => trivial) p702.z (wN rfl) (fun _ _ => okMv s703) trivial rfl fun a704 p705 sp705 => ?_
    have s706 := p705.o (p702.o (p699.o (p688.o s686 rfl) rfl) rfl) rfl
    refine hTakeW (i := 11) rfl (by kernel_rfl) (by kernel_rfl) (by kernel_rfl) nrm (cond := fun _ => True) (.inl fun _ => trivial) p705.z (wN rfl) (fun _ _ => okMv s706) trivial rfl fun a707 p708 sp708 => ?_
    have s709 := p708.o sp705 rfl
    have q710 := q504.mono g662.t0
    refine hTakeW (i := 12) rfl (by kernel_rfl) (by kernel_rfl) (by kernel_rfl) nrm (cond := fun _ => True) (.inl fun _ => trivial) p708.z (wN rfl) (fun _ _ => k609 Tryd.underlying24 Tryd.sizeOf27 s709 sp708 _) trivial rfl fun a718 p719 sp719 => ?_
    have e720 := e611.tr g662.t0 nb612
    refine hTakeW (i := 13) rfl (by kernel_rfl) (by kernel_rfl) (by kernel_rfl) nrm (.inr (.tail _ (.tail _ (.head _)))) p719.z (wN rfl) (fun _ h => okLd (j := 0) na27 sp719 h rfl rfl) e720 rfl fun a721 p722 sp722 => ?_
    refine hOne (i := 4) (by kernel_rfl) rfl (oBS (K := KTResult) (L := L) (xs := []) (C := []) p722.z (pb0 ) (bs27_0_ ) rfl rfl (fun _ _ _ h => by simp at h) rfl rfl fun a723 v724 w725 p726 sp726 q727 g728 f729 => ?_)
    have f730 := frN f729
    have nb731 := nbA hL cx663.g.sz (fun _ h => nilO h) f730
    have sf732 := sfA (S := []) cx663.g.sz (fun _ h => nilO h) f730
    have n733 := Cl.no e680 (List.cons_ne_nil _ _) (fun h => nilO h) f730
    have n734 := Cl.no e700 (List.cons_ne_nil _ _) (fun h => nilO h) f730
    have n735 := Cl.no e720 (List.cons_ne_nil _ _) (fun h => nilO h) f730
    have cx736 := cx663.ap g728 (fun _ h => nilO h) q727
    refine ⟨⟨.inr fun h => h.g0 g728, .inr fun h => h.g0 g728, .inr fun h => h.g0 g728, trivial⟩, ?_⟩
    have s737 := p726.o (p722.o (p719.o (p708.o (p705.o sp702 rfl) rfl) rfl) rfl) rfl
    have q738 := q572.mono (g662.t0.trans (tAp g728 (fun _ h => nilO h) f730))
    refine hOne (i := 9) (by kernel_rfl) rfl (oApp (K := KTResult) (L := (ownB v724 ++ L)) Tryd.underlying27 ti64 rfl p726.z sp726 s737 q727 q738.src hz581 (fun _ h => (List.mem_append_left _ h)) rfl fun a739 v740 w741 p742 sp742 q743 g744 f745 => ?_)
    have nb746 := nbA hL cx736.g.sz nb731 f745
    have sf747 := sfA (S := []) cx736.g.sz sf732 f745
    have e748 := e680.tr (tAp g728 (fun _ h => nilO h) f730) nb533
    have e749 := e700.tr (tAp g728 (fun _ h => nilO h) f730) nb570
    have e750 := e720.tr (tAp g728 (fun _ h => nilO h) f730) nb612
    have n751 := Cl.no e748 (List.cons_ne_nil _ _) n733 f745
    have n752 := Cl.no e749 (List.cons_ne_nil _ _) n734 f745
    have n753 := Cl.no e750 (List.cons_ne_nil _ _) n735 f745
    have cx754 := cx736.ap g744 sf732 q743
    have cx755 := cx754.sub (fun i h => (List.mem_append.1 h).elim (fun h => (List.mem_append_left _ h)) (fun h => (List.mem_append_right _ (List.mem_append_right _ h))))
    have q756 := q743.sub (fun i h => (List.mem_append.1 h).elim (fun h => (List.mem_append_left _ h)) (fun h => (List.mem_append_right _ (List.mem_append_right _ h))))
    have e757 := e748.g g744 n733
    have e758 := e750.g g744 n735
    refine ⟨⟨.inr fun _ => e757, .inl (by kernel_rfl), .inr fun _ => e758, trivial⟩, ?_⟩
    have s759 := p742.o (p726.o sp722 rfl) rfl
    have q760 := q614.mono ((g662.t0.trans (tAp g728 (fun _ h => nilO h) f730)).trans (Tr.sub (tAp g744 (fun _ h => (List.mem_append_left _ h)) f745) (fun i h => (List.mem_append.1 h).elim (fun h => (List.mem_append_left _ h)) (fun h => (List.mem_append_right _ (List.mem_append_right _ h))))))
    refine hOne (i := 14) (by kernel_rfl) rfl (oApp (K := KTResult) (L := (ownB v740 ++ L)) Tryd.underlying27 ti64 rfl p742.z sp742 s759 q756 q760.src hz623 (fun _ h => (List.mem_append_left _ h)) rfl fun a761 v762 w763 p764 sp764 q765 g766 f767 => ?_)
    have nb768 := nbA hL cx755.g.sz nb746 f767
    have sf769 := sfA (S := []) cx755.g.sz sf747 f767
    have e770 := e749.g g744 n734
    have n771 := Cl.no e757 (List.cons_ne_nil _ _) n751 f767
    have n772 := Cl.no e770 (List.cons_ne_nil _ _) n752 f767
    have n773 := Cl.no e758 (List.cons_ne_nil _ _) n753 f767
    have cx774 := cx755.ap g766 sf747 q765
    have cx775 := cx774.sub (fun i h => (List.mem_append.1 h).elim (fun h => (List.mem_append_left _ h)) (fun h => (List.mem_append_right _ (List.mem_append_right _ h))))
    have q776 := q765.sub (fun i h => (List.mem_append.1 h).elim (fun h => (List.mem_append_left _ h)) (fun h => (List.mem_append_right _ (List.mem_append_right _ h))))
    have e777 := e757.g g766 n751
    refine ⟨⟨.inr fun _ => e777, .inl (by kernel_rfl), .inl (by kernel_rfl), trivial⟩, ?_⟩
    have s778 := p764.o (p742.o (p726.o (p722.o (p719.o (p708.o (p705.o (p702.o (p699.o (p688.o (p685.o sp682 rfl) rfl) rfl) rfl) rfl) rfl) rfl) rfl) rfl) rfl) rfl
    have q779 := q535.mono (((g662.t0.trans (tAp g728 (fun _ h => nilO h) f730)).trans (Tr.sub (tAp g744 (fun _ h => (List.mem_append_left _ h)) f745) (fun i h => (List.mem_append.1 h).elim (fun h => (List.mem_append_left _ h)) (fun h => (List.mem_append_right _ (List.mem_append_right _ h)))))).trans (Tr.sub (tAp g766 (fun _ h => (List.mem_append_left _ h)) f767) (fun i h => (List.mem_append.1 h).elim (fun h => (List.mem_append_left _ h)) (fun h => (List.mem_append_right _ (List.mem_append_right _ h))))))
    refine hOne (i := 15) (by kernel_rfl) rfl (oCall p764.z Tryd.call14 (ag2 s778 sp764) (c14 k L w763 (fun i h => cx775.lt i (List.mem_append_right _ h)) _ _ (q779.mono ((Tr.refl _ _).sub (fun i h => (List.mem_append_right _ h)))) _ _ (q776.rd (fun i h => (List.mem_append_right _ h)) (fun b hb => nb768 _ hb)) _ ht640) rfl fun v783 a780 w781 hp784 p782 sp782 => ?_)
    obtain ⟨rfl, g785⟩ := hp784
    have cx786 := cx775.ca g785
    refine ⟨⟨.inl (by kernel_rfl), .inl (by kernel_rfl), .inl (by kernel_rfl), trivial⟩, ?_⟩
    refine hTakeW (i := 16) rfl (by kernel_rfl) (by kernel_rfl) (by kernel_rfl) nrm (cond := fun _ => True) (.inl fun _ => trivial) p782.z (wN rfl) (fun _ _ => okNot sp782) trivial rfl fun a787 p788 sp788 => ?_
    have q789 := q776.t0 g785.t0 g785
    have s790 := p788.o (p782.o (p764.o (p742.o (p726.o (p722.o (p719.o (p708.o (p705.o (p702.o (p699.o (p688.o (p685.o (p682.o (p679.o (p668.o (p665.o s651 rfl) rfl) rfl) rfl) rfl) rfl) rfl) rfl) rfl) rfl) rfl) rfl) rfl) rfl) rfl) rfl) rfl
    have s791 := p788.o (p782.o (p764.o (p742.o (p726.o (p722.o (p719.o (p708.o (p705.o (p702.o (p699.o (p688.o (p685.o (p682.o (p679.o (p668.o (p665.o s652 rfl) rfl) rfl) rfl) rfl) rfl) rfl) rfl) rfl) rfl) rfl) rfl) rfl) rfl) rfl) rfl) rfl
    have s792 := p788.o (p782.o (p764.o (p742.o (p726.o (p722.o (p719.o (p708.o (p705.o (p702.o (p699.o (p688.o (p685.o (p682.o (p679.o (p668.o (p665.o s653 rfl) rfl) rfl) rfl) rfl) rfl) rfl) rfl) rfl) rfl) rfl) rfl) rfl) rfl) rfl) rfl) rfl
    have s793 := p788.o (p782.o (p764.o (p742.o (p726.o (p722.o (p719.o (p708.o (p705.o (p702.o (p699.o (p688.o (p685.o (p682.o (p679.o (p668.o (p665.o s654 rfl) rfl) rfl) rfl) rfl) rfl) rfl) rfl) rfl) rfl) rfl) rfl) rfl) rfl) rfl) rfl) rfl
    have s794 := p788.o (p782.o (p764.o (p742.o (p726.o (p722.o (p719.o (p708.o (p705.o (p702.o (p699.o (p688.o (p685.o (p682.o (p679.o (p668.o (p665.o s655 rfl) rfl) rfl) rfl) rfl) rfl) rfl) rfl) rfl) rfl) rfl) rfl) rfl) rfl) rfl) rfl) rfl
    have s795 := p788.o (p782.o (p764.o (p742.o (p726.o (p722.o (p719.o (p708.o (p705.o (p702.o (p699.o (p688.o (p685.o (p682.o (p679.o (p668.o (p665.o s656 rfl) rfl) rfl) rfl) rfl) rfl) rfl) rfl) rfl) rfl) rfl) rfl) rfl) rfl) rfl) rfl) rfl
    have s796 := p788.o (p782.o (p764.o (p742.o (p726.o (p722.o (p719.o (p708.o (p705.o (p702.o (p699.o (p688.o (p685.o s683 rfl) rfl) rfl) rfl) rfl) rfl) rfl) rfl) rfl) rfl) rfl) rfl) rfl
    have s797 := p788.o (p782.o (p764.o (p742.o (p726.o (p722.o (p719.o (p708.o (p705.o s703 rfl) rfl) rfl) rfl) rfl) rfl) rfl) rfl) rfl
    have s798 := p788.o (p782.o (p764.o (p742.o (p726.o (p722.o (p719.o (p708.o (p705.o (p702.o (p699.o (p688.o (p685.o (p682.o (p679.o (p668.o (p665.o s659 rfl) rfl) rfl) rfl) rfl) rfl) rfl) rfl) rfl) rfl) rfl) rfl) rfl) rfl) rfl) rfl) rfl
    have s799 := p788.o (p782.o (p764.o (p742.o (p726.o (p722.o (p719.o (p708.o s706 rfl) rfl) rfl) rfl) rfl) rfl) rfl) rfl
    have s800 := p788.o (p782.o (p764.o (p742.o (p726.o (p722.o (p719.o (p708.o (p705.o (p702.o (p699.o (p688.o (p685.o (p682.o (p679.o (p668.o (p665.o s661 rfl) rfl) rfl) rfl) rfl) rfl) rfl) rfl) rfl) rfl) rfl) rfl) rfl) rfl) rfl) rfl) rfl
    have s801 := p788.o (p782.o (p764.o (p742.o (p726.o (p722.o (p719.o (p708.o (p705.o (p702.o (p699.o (p688.o (p685.o (p682.o (p679.o (p668.o (p665.o s514 rfl) rfl) rfl) rfl) rfl) rfl) rfl) rfl) rfl) rfl) rfl) rfl) rfl) rfl) rfl) rfl) rfl
    have s802 := p788.o (p782.o (p764.o (p742.o (p726.o (p722.o (p719.o (p708.o (p705.o (p702.o (p699.o (p688.o (p685.o (p682.o (p679.o s669 rfl) rfl) rfl) rfl) rfl) rfl) rfl) rfl) rfl) rfl) rfl) rfl) rfl) rfl) rfl
    have s803 := p788.o (p782.o (p764.o (p742.o (p726.o (p722.o (p719.o (p708.o (p705.o (p702.o (p699.o (p688.o (p685.o (p682.o (p679.o sp668 rfl) rfl) rfl) rfl) rfl) rfl) rfl) rfl) rfl) rfl) rfl) rfl) rfl) rfl) rfl
    have s804 := p788.o (p782.o (p764.o (p742.o (p726.o (p722.o (p719.o (p708.o (p705.o (p702.o (p699.o (p688.o (p685.o (p682.o sp679 rfl) rfl) rfl) rfl) rfl) rfl) rfl) rfl) rfl) rfl) rfl) rfl) rfl) rfl
    have s805 := p788.o (p782.o s778 rfl) rfl
    have s806 := p788.o (p782.o (p764.o (p742.o (p726.o (p722.o (p719.o (p708.o (p705.o (p702.o (p699.o s689 rfl) rfl) rfl) rfl) rfl) rfl) rfl) rfl) rfl) rfl) rfl
    have s807 := p788.o (p782.o (p764.o (p742.o (p726.o (p722.o (p719.o (p708.o (p705.o (p702.o (p699.o sp688 rfl) rfl) rfl) rfl) rfl) rfl) rfl) rfl) rfl) rfl) rfl
    have s808 := p788.o (p782.o (p764.o (p742.o (p726.o (p722.o (p719.o (p708.o (p705.o (p702.o sp699 rfl) rfl) rfl) rfl) rfl) rfl) rfl) rfl) rfl) rfl
    have s809 := p788.o (p782.o (p764.o (p742.o s737 rfl) rfl) rfl) rfl
    have s810 := p788.o (p782.o (p764.o (p742.o (p726.o (p722.o (p719.o s709 rfl) rfl) rfl) rfl) rfl) rfl) rfl
    have s811 := p788.o (p782.o (p764.o (p742.o (p726.o (p722.o (p719.o sp708 rfl) rfl) rfl) rfl) rfl) rfl) rfl
    have s812 := p788.o (p782.o (p764.o (p742.o (p726.o (p722.o sp719 rfl) rfl) rfl) rfl) rfl) rfl
    have s813 := p788.o (p782.o (p764.o s759 rfl) rfl) rfl
    have s814 := p788.o (p782.o sp764 rfl) rfl
    have s815 := p788.o sp782 rfl
    exact hDone (by kernel_rfl) ⟨rfl, v762, p788.z, s790, s791, s792, s793, s794, s795, s796, s797, s798, s799, s800, s801, s802, s803, s804, s805, s806, s807, s808, s809, s810, s811, s812, s813, s814, s815, sp788, q789, cx786, ((((g662.t0.trans (tAp g728 (fun _ h => nilO h) f730)).trans (Tr.sub (tAp g744 (fun _ h => (List.mem_append_left _ h)) f745) (fun i h => (List.mem_append.1 h).elim (fun h => (List.mem_append_left _ h)) (fun h => (List.mem_append_right _ (List.mem_append_right _ h)))))).trans (Tr.sub (tAp g766 (fun _ h => (List.mem_append_left _ h)) f767) (fun i h => (List.mem_append.1 h).elim (fun h => (List.mem_append_left _ h)) (fun h => (List.mem_append_right _ (List.mem_append_right _ h)))))).trans g785.t0), nb768, sf769⟩
   rintro a816 w817 ⟨h819, z818, s820, s821, s822, s823, s824, s825, s826, s827, s828, s829, s830, s831, s832, s833, s834, s835, s836, s837, s838, s839, s840, s841, s842, s843, s844, s845, s846, q847, cx848, t849, n850, n851⟩
   refine thenN ?_
   refine cnd s846 (fun hb852 => ?_) (fun hb852 => ?_)
   ·replace h := (ifP hb852).symm.trans h
    refine wp_seq ?_
    refine reg ?_
    refine s1 z818 (okAs cst) rfl fun a853 p854 s855 => ?_
    refine rN (thenN ?_)
    obtain rfl := Option.some.inj h
    obtain rfl := Option.some.inj oh508
    exact wp_ret (blkR (thenR (thenR (jqR (blkR (thenR (ret1 p854.z Tryd.results4 (rvT s855) ⟨_, rfl, rfl, cx848.g⟩)))))))
   replace h := (ifN hb852).symm.trans h
   refine wp_skip (blkN (thenN ?_))
   refine reg ?_
   refine s1 z818 (okMv s829) rfl fun a856 p857 s858 => ?_
   refine s1 p857.z (okAdd s858 cst) rfl fun a859 p860 s861 => ?_
   refine s1 p860.z (okAs s861) rfl fun a862 p863 s864 => ?_
   have s865 := p863.o (p860.o (p857.o s820 rfl) rfl) rfl
   have s866 := p863.o (p860.o (p857.o s821 rfl) rfl) rfl
   have s867 := p863.o (p860.o (p857.o s822 rfl) rfl) rfl
   have s868 := p863.o (p860.o (p857.o s823 rfl) rfl) rfl
   have s869 := p863.o (p860.o (p857.o s824 rfl) rfl) rfl
   have s870 := p863.o (p860.o (p857.o s825 rfl) rfl) rfl
   have s871 := p863.o (p860.o (p857.o s826 rfl) rfl) rfl
   have s872 := p863.o (p860.o (p857.o s827 rfl) rfl) rfl
   have s873 := p863.o (p860.o (p857.o s828 rfl) rfl) rfl
   have q874 := q500.mono t849
   have q875 := q501.mono t849
   have q876 := q502.mono t849
   have q877 := q503.mono t849
   have q878 := q504.mono t849
   have q879 := q505.mono t849
   have q880 := q506.mono t849
   exact rN (thenN ⟨k, Nat.lt_succ_self k, (w64 (i473 + 1)), p863.z, s865, s866, s867, s868, s869, s870, s871, s872, s873, s864, (q874.mono ((Tr.refl _ _).sub (fun i h => (List.mem_append_right _ h)))), (q875.mono ((Tr.refl _ _).sub (fun i h => (List.mem_append_right _ h)))), (q876.mono ((Tr.refl _ _).sub (fun i h => (List.mem_append_right _ h)))), (q877.mono ((Tr.refl _ _).sub (fun i h => (List.mem_append_right _ h)))), (q878.mono ((Tr.refl _ _).sub (fun i h => (List.mem_append_right _ h)))), (q879.mono ((Tr.refl _ _).sub (fun i h => (List.mem_append_right _ h)))), (q880.mono ((Tr.refl _ _).sub (fun i h => (List.mem_append_right _ h)))), (cx848.sub (fun i h => (List.mem_append_right _ h))), h⟩)
  replace h := (ifN hb515).symm.trans h
  obtain rfl := Option.some.inj h
  have s881 := p513.o (p510.o s490 rfl) rfl
  have s882 := p513.o (p510.o s491 rfl) rfl
  have s883 := p513.o (p510.o s492 rfl) rfl
  have s884 := p513.o (p510.o s493 rfl) rfl
  have s885 := p513.o (p510.o s494 rfl) rfl
  have s886 := p513.o (p510.o s495 rfl) rfl
  exact wp_exit (thenE (thenE (jqE ⟨_, rfl, p513.z, s881, s882, s883, s884, s885, s886, q500, q501, q502, q506, cx507⟩)))
 clear ho475
 rintro a887 w888 ⟨g476, rfl, z889, s890, s891, s892, s893, s894, s895, q896, q897, q898, q899, cx900⟩
 refine blkE (thenN ?_)
 refine wp_seq ?_
 refine reg ?_
 refine lS (oBS (K := (KInt .i64)) (L := L) (xs := []) (C := []) z889 (pb0 ) (bs29_0_ ) rfl rfl (fun _ _ _ h => by simp at h) rfl rfl fun a901 v902 w903 p904 sp904 q905 g906 f907 => ?_)
 have f908 := frN f907
 have nb909 := nbA hL cx900.g.sz (fun _ h => nilO h) f908
 have sf910 := sfA (S := []) cx900.g.sz (fun _ h => nilO h) f908
 have cx911 := cx900.ap g906 (fun _ h => nilO h) q905
 have s912 := p904.o s890 rfl
 refine s1 p904.z (okMv s912) rfl fun a913 p914 s915 => ?_
 have s916 := p914.o (p904.o s892 rfl) rfl
 refine s1 p914.z (okMv s916) rfl fun a917 p918 s919 => ?_
 have s920 := p918.o s915 rfl
 have q921 := q896.mono (tAp g906 (fun _ h => nilO h) f908)
 obtain ⟨t922, ht923, h⟩ := Option.bind_eq_some_iff.1 h
 refine lS (oCall p918.z Tryd.call18 (ag2 s920 s919) (c18 k (ownB v902 ++ L) w903 cx911.lt _ _ q921 _ _ ht923) rfl fun v927 a924 w925 hp928 p926 sp926 => ?_)
 obtain ⟨q929, g930⟩ := hp928
 have cx931 := cx911.ca g930
 have s932 := p926.o (p918.o (p914.o sp904 rfl) rfl) rfl
 obtain ⟨z933, hz934, h⟩ := Option.bind_eq_some_iff.1 h
 have q935 := q905.t0 g930.t0 g930
 refine lS (oApp (K := (KInt .i64)) (L := (ownB v902 ++ L)) Tryd.underlying29 ti3 rfl p926.z s932 sp926 q935 q929.src hz934 (fun _ h => (List.mem_append_left _ h)) rfl fun a936 v937 w938 p939 sp939 q940 g941 f942 => ?_)
 have nb943 := nbA hL cx931.g.sz nb909 f942
 have sf944 := sfA (S := []) cx931.g.sz sf910 f942
 have cx945 := cx931.ap g941 sf910 q940
 have cx946 := cx945.sub (fun i h => (List.mem_append.1 h).elim (fun h => (List.mem_append_left _ h)) (fun h => (List.mem_append_right _ (List.mem_append_right _ h))))
 have q947 := q940.sub (fun i h => (List.mem_append.1 h).elim (fun h => (List.mem_append_left _ h)) (fun h => (List.mem_append_right _ (List.mem_append_right _ h))))
 have s948 := p939.o (p926.o (p918.o (p914.o (p904.o s891 rfl) rfl) rfl) rfl) rfl
 refine s1 p939.z (okMv s948) rfl fun a949 p950 s951 => ?_
 have s952 := p950.o (p939.o (p926.o (p918.o s916 rfl) rfl) rfl) rfl
 refine s1 p950.z (okMv s952) rfl fun a953 p954 s955 => ?_
 have s956 := p954.o s951 rfl
 have q957 := q897.mono (((tAp g906 (fun _ h => nilO h) f908).trans g930.t0).trans (Tr.sub (tAp g941 (fun _ h => (List.mem_append_left _ h)) f942) (fun i h => (List.mem_append.1 h).elim (fun h => (List.mem_append_left _ h)) (fun h => (List.mem_append_right _ (List.mem_append_right _ h))))))
 obtain ⟨t958, ht959, h⟩ := Option.bind_eq_some_iff.1 h
 refine lS (oCall p954.z Tryd.call18 (ag2 s956 s955) (c18 k (ownB v937 ++ L) w938 cx946.lt _ _ q957 _ _ ht959) rfl fun v963 a960 w961 hp964 p962 sp962 => ?_)
 obtain ⟨q965, g966⟩ := hp964
 have cx967 := cx946.ca g966
 have s968 := p962.o (p954.o (p950.o sp939 rfl) rfl) rfl
 obtain ⟨z969, hz970, h⟩ := Option.bind_eq_some_iff.1 h
 have q971 := q947.t0 g966.t0 g966
 refine lS (oApp (K := (KInt .i64)) (L := (ownB v937 ++ L)) Tryd.underlying29 ti3 rfl p962.z s968 sp962 q971 q965.src hz970 (fun _ h => (List.mem_append_left _ h)) rfl fun a972 v973 w974 p975 sp975 q976 g977 f978 => ?_)
 have nb979 := nbA hL cx967.g.sz nb943 f978
 have sf980 := sfA (S := []) cx967.g.sz sf944 f978
 have cx981 := cx967.ap g977 sf944 q976
 have cx982 := cx981.sub (fun i h => (List.mem_append.1 h).elim (fun h => (List.mem_append_left _ h)) (fun h => (List.mem_append_right _ (List.mem_append_right _ h))))
 have q983 := q976.sub (fun i h => (List.mem_append.1 h).elim (fun h => (List.mem_append_left _ h)) (fun h => (List.mem_append_right _ (List.mem_append_right _ h))))
 refine s1 p975.z (okAs sp975) rfl fun a984 p985 s986 => ?_
 refine rN (thenN ?_)
 refine wp_seq ?_
 refine reg ?_
 have s987 := p985.o (p975.o (p962.o (p954.o (p950.o (p939.o (p926.o (p918.o (p914.o (p904.o s894 rfl) rfl) rfl) rfl) rfl) rfl) rfl) rfl) rfl) rfl
 refine s1 p985.z (okMv s987) rfl fun a988 p989 s990 => ?_
 refine s1 p989.z (okMv s990) rfl fun a991 p992 s993 => ?_
 obtain ⟨b994, hb995, h⟩ := Option.bind_eq_some_iff.1 h
 refine cutL 9 (fun a' w' => Pg Tryd.f4.ntmps [96, 97, 98, 99, 100, 101, 102, 103, 104] a991 a' ∧ a'.eval (.tmp 104) = .bool b994 ∧ G [] w974 w') ?_ ?_
 ·rcases bf t4 with hb996 | hb996
  ·have s997 := bv s993 hb996
   replace hb995 := (ifN hb996).symm.trans hb995
   clear h; have h := hb995; clear hb995
   refine s1k p992.z rfl (yd p992.z rfl rfl s997) rfl fun a998 p999 s1000 => ?_
   have s1001 := p999.o s997 rfl
   refine s1k p999.z rfl (yd p999.z rfl rfl s1001) rfl fun a1002 p1003 s1004 => ?_
   have s1005 := p1003.o s1001 rfl
   refine s1k p1003.z rfl (yd p1003.z rfl rfl s1005) rfl fun a1006 p1007 s1008 => ?_
   have s1009 := p1007.o s1005 rfl
   refine s1k p1007.z rfl (yd p1007.z rfl rfl s1009) rfl fun a1010 p1011 s1012 => ?_
   have s1013 := p1011.o s1009 rfl
   refine s1k p1011.z rfl (yd p1011.z rfl rfl s1013) rfl fun a1014 p1015 s1016 => ?_
   have s1017 := p1015.o s1013 rfl
   refine s1k p1015.z rfl (yd p1015.z rfl rfl s1017) rfl fun a1018 p1019 s1020 => ?_
   have s1021 := p1019.o s1017 rfl
   refine s1k p1019.z rfl (yd p1019.z rfl rfl s1021) rfl fun a1022 p1023 s1024 => ?_
   have s1025 := p1023.o s1021 rfl
   refine s1k p1023.z rfl (yd p1023.z rfl rfl s1025) rfl fun a1026 p1027 s1028 => ?_
   have s1029 := p1027.o s1025 rfl
   refine s1 p1027.z (okPickF s1029 cst) rfl fun a1030 p1031 s1032 => ?_
   obtain rfl := Option.some.inj h
   exact rN ⟨rfl, ((((((((((Pg.refl p992.z).st p999 rfl).st p1003 rfl).st p1007 rfl).st p1011 rfl).st p1015 rfl).st p1019 rfl).st p1023 rfl).st p1027 rfl).st p1031 rfl), s1032, (G.refl _ _)⟩
  ·have s1033 := bv s993 hb996
   replace hb995 := (ifP hb996).symm.trans hb995
   clear h; have h := hb995; clear hb995
   have s1034 := p992.o (p989.o (p985.o (p975.o (p962.o (p954.o (p950.o (p939.o (p926.o (p918.o (p914.o (p904.o s895 rfl) rfl) rfl) rfl) rfl) rfl) rfl) rfl) rfl) rfl) rfl) rfl
   refine s1g p992.z (okMv s1034) rfl (yd p992.z rfl rfl s1033) fun a1035 p1036 s1037 => ?_
   have s1038 := p1036.o s1033 rfl
   have q1039 := q898.mono (((((tAp g906 (fun _ h => nilO h) f908).trans g930.t0).trans (Tr.sub (tAp g941 (fun _ h => (List.mem_append_left _ h)) f942) (fun i h => (List.mem_append.1 h).elim (fun h => (List.mem_append_left _ h)) (fun h => (List.mem_append_right _ (List.mem_append_right _ h)))))).trans g966.t0).trans (Tr.sub (tAp g977 (fun _ h => (List.mem_append_left _ h)) f978) (fun i h => (List.mem_append.1 h).elim (fun h => (List.mem_append_left _ h)) (fun h => (List.mem_append_right _ (List.mem_append_right _ h))))))
   have q1040 := q899.mono (((((tAp g906 (fun _ h => nilO h) f908).trans g930.t0).trans (Tr.sub (tAp g941 (fun _ h => (List.mem_append_left _ h)) f942) (fun i h => (List.mem_append.1 h).elim (fun h => (List.mem_append_left _ h)) (fun h => (List.mem_append_right _ (List.mem_append_right _ h)))))).trans g966.t0).trans (Tr.sub (tAp g977 (fun _ h => (List.mem_append_left _ h)) f978) (fun i h => (List.mem_append.1 h).elim (fun h => (List.mem_append_left _ h)) (fun h => (List.mem_append_right _ (List.mem_append_right _ h))))))
   obtain ⟨t1041, ht1042, h⟩ := Option.bind_eq_some_iff.1 h
   refine lG rfl (yd p1036.z rfl rfl s1038) (oCall p1036.z Tryd.call20 (ag1 s1037) (c20 k (ownB v973 ++ L) w974 cx982.lt q1040 _ _ q1039 _ ht1042) rfl fun v1046 a1043 w1044 hp1047 p1045 sp1045 => ?_)
   obtain ⟨rfl, g1048⟩ := hp1047
   have cx1049 := cx982.ca g1048
   have s1050 := p1045.o s1038 rfl
   have s1051 := p1045.o (p1036.o (p992.o (p989.o (p985.o (p975.o (p962.o (p954.o (p950.o (p939.o (p926.o (p918.o (p914.o s912 rfl) rfl) rfl) rfl) rfl) rfl) rfl) rfl) rfl) rfl) rfl) rfl) rfl
   refine s1g p1045.z (okMv s1051) rfl (yd p1045.z rfl rfl s1050) fun a1052 p1053 s1054 => ?_
   have s1055 := p1053.o s1050 rfl
   have q1056 := q921.mono ((((g930.t0.trans (Tr.sub (tAp g941 (fun _ h => (List.mem_append_left _ h)) f942) (fun i h => (List.mem_append.1 h).elim (fun h => (List.mem_append_left _ h)) (fun h => (List.mem_append_right _ (List.mem_append_right _ h)))))).trans g966.t0).trans (Tr.sub (tAp g977 (fun _ h => (List.mem_append_left _ h)) f978) (fun i h => (List.mem_append.1 h).elim (fun h => (List.mem_append_left _ h)) (fun h => (List.mem_append_right _ (List.mem_append_right _ h)))))).trans g1048.t0)
   have q1057 := q1040.mono g1048.t0
   obtain ⟨t1058, ht1059, h⟩ := Option.bind_eq_some_iff.1 h
   refine lG rfl (yd p1053.z rfl rfl s1055) (oCall p1053.z Tryd.call20 (ag1 s1054) (c20 k (ownB v973 ++ L) w1044 cx1049.lt q1057 _ _ q1056 _ ht1059) rfl fun v1063 a1060 w1061 hp1064 p1062 sp1062 => ?_)
   obtain ⟨rfl, g1065⟩ := hp1064
   have cx1066 := cx1049.ca g1065
   have s1067 := p1062.o s1055 rfl
   have s1068 := p1062.o (p1053.o (p1045.o (p1036.o (p992.o (p989.o (p985.o (p975.o (p962.o (p954.o (p950.o s948 rfl) rfl) rfl) rfl) rfl) rfl) rfl) rfl) rfl) rfl) rfl
   refine s1g p1062.z (okMv s1068) rfl (yd p1062.z rfl rfl s1067) fun a1069 p1070 s1071 => ?_
   have s1072 := p1070.o s1067 rfl
   have q1073 := q957.mono (((g966.t0.trans (Tr.sub (tAp g977 (fun _ h => (List.mem_append_left _ h)) f978) (fun i h => (List.mem_append.1 h).elim (fun h => (List.mem_append_left _ h)) (fun h => (List.mem_append_right _ (List.mem_append_right _ h)))))).trans g1048.t0).trans g1065.t0)
   have q1074 := q1057.mono g1065.t0
   obtain ⟨t1075, ht1076, h⟩ := Option.bind_eq_some_iff.1 h
   refine lG rfl (yd p1070.z rfl rfl s1072) (oCall p1070.z Tryd.call20 (ag1 s1071) (c20 k (ownB v973 ++ L) w1061 cx1066.lt q1074 _ _ q1073 _ ht1076) rfl fun v1080 a1077 w1078 hp1081 p1079 sp1079 => ?_)
   obtain ⟨rfl, g1082⟩ := hp1081
   have cx1083 := cx1066.ca g1082
   have s1084 := p1079.o s1072 rfl
   have s1085 := p1079.o (p1070.o sp1062 rfl) rfl
   obtain ⟨z1086, hz1087, h⟩ := Option.bind_eq_some_iff.1 h
   refine s1g p1079.z (okSAdd s1085 sp1079 hz1087) rfl (yd p1079.z rfl rfl s1084) fun a1088 p1089 s1090 => ?_
   have s1091 := p1089.o s1084 rfl
   have s1092 := p1089.o (p1079.o (p1070.o (p1062.o (p1053.o sp1045 rfl) rfl) rfl) rfl) rfl
   refine s1g p1089.z (okStrEq s1092 s1090) rfl (yd p1089.z rfl rfl s1091) fun a1093 p1094 s1095 => ?_
   have s1096 := p1094.o s1091 rfl
   refine s1 p1094.z (okPickT s1096 s1095) rfl fun a1097 p1098 s1099 => ?_
   obtain rfl := Option.some.inj h
   exact rN ⟨rfl, ((((((((((Pg.refl p992.z).st p1036 rfl).st p1045 rfl).st p1053 rfl).st p1062 rfl).st p1070 rfl).st p1079 rfl).st p1089 rfl).st p1094 rfl).st p1098 rfl), s1099, ((g1048.tr0 g1065).tr0 g1082)⟩
 rintro a1100 w1103 ⟨pg1101, s1102, g1104⟩
 have cx1105 := cx982.ca g1104
 refine s1 pg1101.z (okMv s1102) rfl fun a1106 p1107 s1108 => ?_
 obtain ⟨b1109, hb1110, h⟩ := Option.bind_eq_some_iff.1 h
 refine cutL 12 (fun a' w' => Pg Tryd.f4.ntmps [106, 107, 108, 109, 110, 111, 112, 113, 114, 115, 116, 117] a1106 a' ∧ a'.eval (.tmp 117) = .bool b1109 ∧ G [] w1103 w') ?_ ?_
 ·rcases bf b994 with hb1111 | hb1111
  ·have s1112 := bv s1108 hb1111
   replace hb1110 := (ifN hb1111).symm.trans hb1110
   clear h; have h := hb1110; clear hb1110
   refine s1k p1107.z rfl (yd p1107.z rfl rfl s1112) rfl fun a1113 p1114 s1115 => ?_
   have s1116 := p1114.o s1112 rfl
   refine s1k p1114.z rfl (yd p1114.z rfl rfl s1116) rfl fun a1117 p1118 s1119 => ?_
   have s1120 := p1118.o s1116 rfl
   refine s1k p1118.z rfl (yd p1118.z rfl rfl s1120) rfl fun a1121 p1122 s1123 => ?_
   have s1124 := p1122.o s1120 rfl
   refine s1k p1122.z rfl (yd p1122.z rfl rfl s1124) rfl fun a1125 p1126 s1127 => ?_
   have s1128 := p1126.o s1124 rfl
   refine s1k p1126.z rfl (yd p1126.z rfl rfl s1128) rfl fun a1129 p1130 s1131 => ?_
   have s1132 := p1130.o s1128 rfl
   refine s1k p1130.z rfl (yd p1130.z rfl rfl s1132) rfl fun a1133 p1134 s1135 => ?_
   have s1136 := p1134.o s1132 rfl
   refine s1k p1134.z rfl (yd p1134.z rfl rfl s1136) rfl fun a1137 p1138 s1139 => ?_
   have s1140 := p1138.o s1136 rfl
   refine s1k p1138.z rfl (yd p1138.z rfl rfl s1140) rfl fun a1141 p1142 s1143 => ?_
   have s1144 := p1142.o s1140 rfl
   refine s1k p1142.z rfl (yd p1142.z rfl rfl s1144) rfl fun a1145 p1146 s1147 => ?_
   have s1148 := p1146.o s1144 rfl
   refine s1k p1146.z rfl (yd p1146.z rfl rfl s1148) rfl fun a1149 p1150 s1151 => ?_
   have s1152 := p1150.o s1148 rfl
   refine s1k p1150.z rfl (yd p1150.z rfl rfl s1152) rfl fun a1153 p1154 s1155 => ?_
   have s1156 := p1154.o s1152 rfl
   refine s1 p1154.z (okPickF s1156 cst) rfl fun a1157 p1158 s1159 => ?_
   obtain rfl := Option.some.inj h
   exact rN ⟨rfl, (((((((((((((Pg.refl p1107.z).st p1114 rfl).st p1118 rfl).st p1122 rfl).st p1126 rfl).st p1130 rfl).st p1134 rfl).st p1138 rfl).st p1142 rfl).st p1146 rfl).st p1150 rfl).st p1154 rfl).st p1158 rfl), s1159, (G.refl _ _)⟩
  ·have s1160 := bv s1108 hb1111
   replace hb1110 := (ifP hb1111).symm.trans hb1110
   clear h; have h := hb1110; clear hb1110
   have s1161 := p1107.o (pg1101.o (p992.o (p989.o (p985.o (p975.o (p962.o (p954.o (p950.o (p939.o (p926.o (p918.o (p914.o (p904.o s895 rfl) rfl) rfl) rfl) rfl) rfl) rfl) rfl) rfl) rfl) rfl) rfl) rfl) rfl
   refine s1g p1107.z (okMv s1161) rfl (yd p1107.z rfl rfl s1160) fun a1162 p1163 s1164 => ?_
   have s1165 := p1163.o s1160 rfl
   have s1166 := p1163.o (p1107.o (pg1101.o (p992.o (p989.o (p985.o (p975.o (p962.o (p954.o s952 rfl) rfl) rfl) rfl) rfl) rfl) rfl) rfl) rfl
   refine s1g p1163.z (okMv s1166) rfl (yd p1163.z rfl rfl s1165) fun a1167 p1168 s1169 => ?_
   have s1170 := p1168.o s1165 rfl
   have s1171 := p1168.o s1164 rfl
   have q1172 := q898.mono ((((((tAp g906 (fun _ h => nilO h) f908).trans g930.t0).trans (Tr.sub (tAp g941 (fun _ h => (List.mem_append_left _ h)) f942) (fun i h => (List.mem_append.1 h).elim (fun h => (List.mem_append_left _ h)) (fun h => (List.mem_append_right _ (List.mem_append_right _ h)))))).trans g966.t0).trans (Tr.sub (tAp g977 (fun _ h => (List.mem_append_left _ h)) f978) (fun i h => (List.mem_append.1 h).elim (fun h => (List.mem_append_left _ h)) (fun h => (List.mem_append_right _ (List.mem_append_right _ h)))))).trans g1104.t0)
   obtain ⟨t1173, ht1174, h⟩ := Option.bind_eq_some_iff.1 h
   refine lG rfl (yd p1168.z rfl rfl s1170) (oCall p1168.z Tryd.call19 (ag2 s1171 s1169) (c19 k (ownB v973 ++ L) w1103 cx1105.lt _ _ q1172 _ _ ht1174) rfl fun v1178 a1175 w1176 hp1179 p1177 sp1177 => ?_)
   obtain ⟨rfl, g1180⟩ := hp1179
   have cx1181 := cx1105.ca g1180
   have s1182 := p1177.o s1170 rfl
   have s1183 := p1177.o (p1168.o (p1163.o (p1107.o (pg1101.o (p992.o (p989.o (p985.o (p975.o (p962.o (p954.o (p950.o (p939.o (p926.o (p918.o (p914.o s912 rfl) rfl) rfl) rfl) rfl) rfl) rfl) rfl) rfl) rfl) rfl) rfl) rfl) rfl) rfl) rfl
   refine s1g p1177.z (okMv s1183) rfl (yd p1177.z rfl rfl s1182) fun a1184 p1185 s1186 => ?_
   have s1187 := p1185.o s1182 rfl
   have s1188 := p1185.o (p1177.o (p1168.o s1166 rfl) rfl) rfl
   refine s1g p1185.z (okMv s1188) rfl (yd p1185.z rfl rfl s1187) fun a1189 p1190 s1191 => ?_
   have s1192 := p1190.o s1187 rfl
   have s1193 := p1190.o s1186 rfl
   have q1194 := q921.mono (((((g930.t0.trans (Tr.sub (tAp g941 (fun _ h => (List.mem_append_left _ h)) f942) (fun i h => (List.mem_append.1 h).elim (fun h => (List.mem_append_left _ h)) (fun h => (List.mem_append_right _ (List.mem_append_right _ h)))))).trans g966.t0).trans (Tr.sub (tAp g977 (fun _ h => (List.mem_append_left _ h)) f978) (fun i h => (List.mem_append.1 h).elim (fun h => (List.mem_append_left _ h)) (fun h => (List.mem_append_right _ (List.mem_append_right _ h)))))).trans g1104.t0).trans g1180.t0)
   obtain ⟨t1195, ht1196, h⟩ := Option.bind_eq_some_iff.1 h
   refine lG rfl (yd p1190.z rfl rfl s1192) (oCall p1190.z Tryd.call19 (ag2 s1193 s1191) (c19 k (ownB v973 ++ L) w1176 cx1181.lt _ _ q1194 _ _ ht1196) rfl fun v1200 a1197 w1198 hp1201 p1199 sp1199 => ?_)
   obtain ⟨rfl, g1202⟩ := hp1201
   have cx1203 := cx1181.ca g1202
   have s1204 := p1199.o s1192 rfl
   have s1205 := p1199.o (p1190.o (p1185.o (p1177.o (p1168.o (p1163.o (p1107.o (pg1101.o (p992.o (p989.o (p985.o (p975.o (p962.o (p954.o (p950.o s948 rfl) rfl) rfl) rfl) rfl) rfl) rfl) rfl) rfl) rfl) rfl) rfl) rfl) rfl) rfl
   refine s1g p1199.z (okMv s1205) rfl (yd p1199.z rfl rfl s1204) fun a1206 p1207 s1208 => ?_
   have s1209 := p1207.o s1204 rfl
   have s1210 := p1207.o (p1199.o (p1190.o s1188 rfl) rfl) rfl
   refine s1g p1207.z (okMv s1210) rfl (yd p1207.z rfl rfl s1209) fun a1211 p1212 s1213 => ?_
   have s1214 := p1212.o s1209 rfl
   have s1215 := p1212.o s1208 rfl
   have q1216 := q957.mono ((((g966.t0.trans (Tr.sub (tAp g977 (fun _ h => (List.mem_append_left _ h)) f978) (fun i h => (List.mem_append.1 h).elim (fun h => (List.mem_append_left _ h)) (fun h => (List.mem_append_right _ (List.mem_append_right _ h)))))).trans g1104.t0).trans g1180.t0).trans g1202.t0)
   obtain ⟨t1217, ht1218, h⟩ := Option.bind_eq_some_iff.1 h
   refine lG rfl (yd p1212.z rfl rfl s1214) (oCall p1212.z Tryd.call19 (ag2 s1215 s1213) (c19 k (ownB v973 ++ L) w1198 cx1203.lt _ _ q1216 _ _ ht1218) rfl fun v1222 a1219 w1220 hp1223 p1221 sp1221 => ?_)
   obtain ⟨rfl, g1224⟩ := hp1223
   have cx1225 := cx1203.ca g1224
   have s1226 := p1221.o s1214 rfl
   have s1227 := p1221.o (p1212.o (p1207.o sp1199 rfl) rfl) rfl
   refine s1g p1221.z (okAdd s1227 sp1221) rfl (yd p1221.z rfl rfl s1226) fun a1228 p1229 s1230 => ?_
   have s1231 := p1229.o s1226 rfl
   have s1232 := p1229.o (p1221.o (p1212.o (p1207.o (p1199.o (p1190.o (p1185.o sp1177 rfl) rfl) rfl) rfl) rfl) rfl) rfl
   refine s1g p1229.z (okEq s1232 s1230) rfl (yd p1229.z rfl rfl s1231) fun a1233 p1234 s1235 => ?_
   have s1236 := p1234.o s1231 rfl
   refine s1 p1234.z (okPickT s1236 s1235) rfl fun a1237 p1238 s1239 => ?_
   obtain rfl := Option.some.inj h
   exact rN ⟨rfl, (((((((((((((Pg.refl p1107.z).st p1163 rfl).st p1168 rfl).st p1177 rfl).st p1185 rfl).st p1190 rfl).st p1199 rfl).st p1207 rfl).st p1212 rfl).st p1221 rfl).st p1229 rfl).st p1234 rfl).st p1238 rfl), s1239, ((g1180.tr0 g1202).tr0 g1224)⟩
 rintro a1240 w1243 ⟨pg1241, s1242, g1244⟩
 have cx1245 := cx1105.ca g1244
 refine s1 pg1241.z (okMv s1242) rfl fun a1246 p1247 s1248 => ?_
 obtain ⟨b1249, hb1250, h⟩ := Option.bind_eq_some_iff.1 h
 refine cutL 6 (fun a' w' => Pg Tryd.f4.ntmps [119, 120, 121, 122, 123, 124] a1246 a' ∧ a'.eval (.tmp 124) = .bool b1249 ∧ G [] w1243 w') ?_ ?_
 ·rcases bf b1109 with hb1251 | hb1251
  ·have s1252 := bv s1248 hb1251
   replace hb1250 := (ifN hb1251).symm.trans hb1250
   clear h; have h := hb1250; clear hb1250
   refine s1k p1247.z rfl (yd p1247.z rfl rfl s1252) rfl fun a1253 p1254 s1255 => ?_
   have s1256 := p1254.o s1252 rfl
   refine s1k p1254.z rfl (yd p1254.z rfl rfl s1256) rfl fun a1257 p1258 s1259 => ?_
   have s1260 := p1258.o s1256 rfl
   refine s1k p1258.z rfl (yd p1258.z rfl rfl s1260) rfl fun a1261 p1262 s1263 => ?_
   have s1264 := p1262.o s1260 rfl
   refine s1k p1262.z rfl (yd p1262.z rfl rfl s1264) rfl fun a1265 p1266 s1267 => ?_
   have s1268 := p1266.o s1264 rfl
   refine s1k p1266.z rfl (yd p1266.z rfl rfl s1268) rfl fun a1269 p1270 s1271 => ?_
   have s1272 := p1270.o s1268 rfl
   refine s1 p1270.z (okPickF s1272 cst) rfl fun a1273 p1274 s1275 => ?_
   obtain rfl := Option.some.inj h
   exact rN ⟨rfl, (((((((Pg.refl p1247.z).st p1254 rfl).st p1258 rfl).st p1262 rfl).st p1266 rfl).st p1270 rfl).st p1274 rfl), s1275, (G.refl _ _)⟩
  ·have s1276 := bv s1248 hb1251
   replace hb1250 := (ifP hb1251).symm.trans hb1250
   clear h; have h := hb1250; clear hb1250
   have s1277 := p1247.o (pg1241.o (p1107.o (pg1101.o (p992.o (p989.o (p985.o (p975.o (p962.o (p954.o (p950.o (p939.o (p926.o (p918.o (p914.o (p904.o s895 rfl) rfl) rfl) rfl) rfl) rfl) rfl) rfl) rfl) rfl) rfl) rfl) rfl) rfl) rfl) rfl
   refine s1g p1247.z (okMv s1277) rfl (yd p1247.z rfl rfl s1276) fun a1278 p1279 s1280 => ?_
   have s1281 := p1279.o s1276 rfl
   have s1282 := p1279.o (p1247.o (pg1241.o (p1107.o (pg1101.o (p992.o (p989.o (p985.o (p975.o (p962.o (p954.o s952 rfl) rfl) rfl) rfl) rfl) rfl) rfl) rfl) rfl) rfl) rfl
   refine s1g p1279.z (okMv s1282) rfl (yd p1279.z rfl rfl s1281) fun a1283 p1284 s1285 => ?_
   have s1286 := p1284.o s1281 rfl
   have s1287 := p1284.o s1280 rfl
   have q1288 := q898.mono (((((((tAp g906 (fun _ h => nilO h) f908).trans g930.t0).trans (Tr.sub (tAp g941 (fun _ h => (List.mem_append_left _ h)) f942) (fun i h => (List.mem_append.1 h).elim (fun h => (List.mem_append_left _ h)) (fun h => (List.mem_append_right _ (List.mem_append_right _ h)))))).trans g966.t0).trans (Tr.sub (tAp g977 (fun _ h => (List.mem_append_left _ h)) f978) (fun i h => (List.mem_append.1 h).elim (fun h => (List.mem_append_left _ h)) (fun h => (List.mem_append_right _ (List.mem_append_right _ h)))))).trans g1104.t0).trans g1244.t0)
   obtain ⟨t1289, ht1290, h⟩ := Option.bind_eq_some_iff.1 h
   refine lG rfl (yd p1284.z rfl rfl s1286) (oCall p1284.z Tryd.call18 (ag2 s1287 s1285) (c18 k (ownB v973 ++ L) w1243 cx1245.lt _ _ q1288 _ _ ht1290) rfl fun v1294 a1291 w1292 hp1295 p1293 sp1293 => ?_)
   obtain ⟨q1296, g1297⟩ := hp1295
   have cx1298 := cx1245.ca g1297
   have s1299 := p1293.o s1286 rfl
   have s1300 := p1293.o (p1284.o (p1279.o (p1247.o (pg1241.o (p1107.o (pg1101.o (p992.o (p989.o s986 rfl) rfl) rfl) rfl) rfl) rfl) rfl) rfl) rfl
   refine s1g p1293.z (okMv s1300) rfl (yd p1293.z rfl rfl s1299) fun a1301 p1302 s1303 => ?_
   have s1304 := p1302.o s1299 rfl
   have s1305 := p1302.o sp1293 rfl
   have q1306 := ((q983.t0 g1104.t0 g1104).t0 g1244.t0 g1244).t0 g1297.t0 g1297
   obtain ⟨t1307, ht1308, h⟩ := Option.bind_eq_some_iff.1 h
   refine lG rfl (yd p1302.z rfl rfl s1304) (oCall p1302.z Tryd.call17 (ag2 s1305 s1303) (c17 k L w1292 (fun i h => cx1298.lt i (List.mem_append_right _ h)) _ _ (q1296.mono ((Tr.refl _ _).sub (fun i h => (List.mem_append_right _ h)))) _ _ (q1306.rd (fun i h => (List.mem_append_right _ h)) (fun b hb => nb979 _ hb)) _ ht1308) rfl fun v1312 a1309 w1310 hp1313 p1311 sp1311 => ?_)
   obtain ⟨rfl, g1314⟩ := hp1313
   have cx1315 := cx1298.ca g1314
   have s1316 := p1311.o s1304 rfl
   refine s1 p1311.z (okPickT s1316 sp1311) rfl fun a1317 p1318 s1319 => ?_
   obtain rfl := Option.some.inj h
   exact rN ⟨rfl, (((((((Pg.refl p1247.z).st p1279 rfl).st p1284 rfl).st p1293 rfl).st p1302 rfl).st p1311 rfl).st p1318 rfl), s1319, (g1297.tr0 g1314)⟩
 rintro a1320 w1323 ⟨pg1321, s1322, g1324⟩
 have cx1325 := cx1245.ca g1324
 refine s1 pg1321.z (okAs s1322) rfl fun a1326 p1327 s1328 => ?_
 refine rN (thenN ?_)
 obtain rfl := Option.some.inj h
 exact wp_ret (ret1 p1327.z Tryd.results4 (rvT s1328) ⟨_, rfl, rfl, cx1325.g⟩)
end Go.Proofs.YtbfndihcbogjfaaDoor
