/-
  The Go functions strconv_Itoa, strconv_FormatInt, hist_words, strings_Builder_WriteString, strings_Builder_String, hist_Text, hist_Order, hist_Marks, hist_Results, tholelaw20_up, tholelaw20_HistMarks: each comes to its plain function. Conditions: where the plain function is some.
-/
import Derived.Test.YtbfndihcbogjfaaDoorK
set_option linter.unusedVariables false
namespace Go.Proofs.YtbfndihcbogjfaaDoor
open Go Go.RowKit Go.Proofs.YtbfndihcbogjfaaDoor.Gx
theorem c31 (L : List Nat) (w : World) (hL : ∀ b ∈ L, b < w.heap.size) (vT : TabA L w) (x0 : Int) (r : List UInt8) (h : strconv_Itoa x0 = some r) : Calls Tryd.prog 31 #[.int .i64 x0] w (fun e w' => ∃ v, e = .returned v ∧ v = .string ⟨r.toArray⟩ ∧ G [] w w') := by
 unfold strconv_Itoa at h
 split at h
 case isFalse => cases h
 rename_i hr
 obtain rfl := Option.some.inj h
 refine (Tryd.strconv_Itoa x0 hr.1 hr.2 w vT.var).mono ?_
 rintro e w' ⟨rfl, k, os, rfl⟩
 exact ⟨_, rfl, rfl, grow_g _ _ _⟩

theorem c30 (L : List Nat) (w : World) (hL : ∀ b ∈ L, b < w.heap.size) (vT : TabA L w) (x0 x1 : Int) (r : List UInt8) (h : strconv_FormatInt x0 x1 = some r) : Calls Tryd.prog 30 #[.int .i64 x0, .int .i64 x1] w (fun e w' => ∃ v, e = .returned v ∧ v = .string ⟨r.toArray⟩ ∧ G [] w w') := by
 unfold strconv_FormatInt at h
 split at h
 case isFalse => cases h
 rename_i hr
 obtain ⟨rfl, h0, h1⟩ := hr
 obtain rfl := Option.some.inj h
 refine (Tryd.strconv_FormatInt_10 x0 h0 h1 w vT.var).mono ?_
 rintro e w' ⟨rfl, k, os, rfl⟩
 exact ⟨_, rfl, rfl, grow_g _ _ _⟩

set_option maxHeartbeats 4000000 in
set_option maxRecDepth 100000 in
theorem c28 (L : List Nat) (w : World) (hL : ∀ b ∈ L, b < w.heap.size) (vT : TabA L w) (x0 : TEvent) (r : (List UInt8)) (h : hist_words x0 = some r) : Calls Tryd.prog 28 #[.agg (TEvent.C x0).toArray] w (fun e w' => ∃ v, e = .returned v ∧ v = .string ⟨r.toArray⟩ ∧ G [] w w') := by
 refine enterF Tryd.func28 rfl rfl fun a0 z0 A => ?_
 have s0_0 := A 0 (.agg (TEvent.C x0).toArray) rfl
 clear A
 have c0 : Cx [] w L w := ⟨G.refl _ _, hL⟩
 unfold hist_words at h
 refine wp_seq ?_
 refine reg ?_
 refine lS (oBox (l := TEvent.C x0) z0 s0_0 rfl rfl fun a1 w2 b3 p4 sp4 m5 g6 e7 => ?_)
 have f9 := c0.nw e7
 have cx8 := c0.al g6 m5
 refine s1 p4.z (okAs cst) rfl fun a10 p11 s12 => ?_
 refine rN (thenN ?_)
 refine wp_seq ?_
 refine wp_seq ?_
 refine reg ?_
 have s13 := p11.o sp4 rfl
 refine s1 p11.z (okFA (o' := 0) fo38_0 s13 rfl) rfl fun a14 p15 s16 => ?_
 refine s1 p15.z (okLd (j := 0) na3 s16 (m5.cl) rfl rfl) rfl fun a17 p18 s19 => ?_
 refine rN (thenN ?_)
 refine wp_block ?_
 refine wp_seq ?_
 refine reg ?_
 refine s1 p18.z (okEq s19 cst) rfl fun a20 p21 s22 => ?_
 refine s1 p21.z (okAs s22) rfl fun a23 p24 s25 => ?_
 refine rN (thenN ?_)
 have s26 := p24.o (p21.o (p18.o (p15.o s13 rfl) rfl) rfl) rfl
 have s27 := p24.o (p21.o (p18.o (p15.o s12 rfl) rfl) rfl) rfl
 have s28 := p24.o (p21.o s19 rfl) rfl
 have pg29 : Pg _ [1, 2, 3, 4, 5, 6] _ _ := (((((((Pg.refl z0).st p4 rfl).st p11 rfl).st p15 rfl).st p18 rfl).st p21 rfl).st p24 rfl)
 refine cnd s25 (fun hb30 => ?_) (fun hb30 => ?_)
 ·replace h := (ifP hb30).symm.trans h
  refine wp_seq ?_
  refine reg ?_
  refine s1 pg29.z (okAs cst) rfl fun a31 p32 s33 => ?_
  refine rN (thenN ?_)
  obtain rfl := Option.some.inj h
  exact wp_ret (blkR (thenR (ret1 p32.z Tryd.results28 (rvT s33) ⟨_, rfl, rfl, cx8.g⟩)))
 replace h := (ifN hb30).symm.trans h
 refine wp_seq ?_
 refine reg ?_
 refine s1 pg29.z (okEq s28 cst) rfl fun a34 p35 s36 => ?_
 refine s1 p35.z (okAs s36) rfl fun a37 p38 s39 => ?_
 refine rN (thenN ?_)
 refine cnd s39 (fun hb40 => ?_) (fun hb40 => ?_)
 ·replace h := (ifP hb40).symm.trans h
  refine wp_seq ?_
  have q41 := vT.mono (g6.tA (Nat.le_of_eq e7.symm))
  obtain ⟨t52, ht53, h⟩ := Option.bind_eq_some_iff.1 h
  obtain ⟨z61, hz62, h⟩ := Option.bind_eq_some_iff.1 h
  obtain ⟨z66, hz67, h⟩ := Option.bind_eq_some_iff.1 h
  obtain ⟨t83, ht84, h⟩ := Option.bind_eq_some_iff.1 h
  obtain ⟨z93, hz94, h⟩ := Option.bind_eq_some_iff.1 h
  refine regJ (fun a' w' => Z Tryd.f28.ntmps a' ∧ a'.eval (.tmp 2) = .string ⟨z93.toArray⟩ ∧ Bk w' b3 (TEvent.C x0) 38 ∧ Cx [] w (b3 :: L) w' ∧ Tr (b3 :: L) w2 (b3 :: L) w') ?_ ?_
  ·refine regH (n := 12) [(2, fun w' => Cl w' b3 3 [.int .i64 x0.note.kind]), (8, fun w' => Cl w' b3 4 [.int .i64 x0.note.value])] mixed rfl ?_
   have g101 := G.drew w2
   have cx102 := cx8.ca g101
   have s103 := p38.o (p35.o s26 rfl) rfl
   refine hTakeW (i := 0) rfl (by kernel_rfl) (by kernel_rfl) (by kernel_rfl) nrm (cond := fun _ => True) (.inl fun _ => trivial) p38.z (wN rfl) (fun _ _ => okFA (o' := 3) fo38_3 s103 rfl) trivial rfl fun a104 p105 sp105 => ?_
   refine hTakeW (i := 1) rfl (by kernel_rfl) (by kernel_rfl) (by kernel_rfl) nrm (cond := fun _ => True) (.inl fun _ => trivial) p105.z (wN rfl) (fun _ _ => okFA (o' := 3) fo36_0 sp105 rfl) trivial rfl fun a106 p107 sp107 => ?_
   have m108 := m5.g0 g101
   refine hTakeW (i := 2) rfl (by kernel_rfl) (by kernel_rfl) (by kernel_rfl) nrm (.inr (.head _)) p107.z (wN rfl) (fun _ h => okLd (j := 0) na3 sp107 h rfl rfl) (m108.clp rfl) rfl fun a109 p110 sp110 => ?_
   have s111 := p110.o (p107.o (p105.o s103 rfl) rfl) rfl
   refine hTakeW (i := 6) rfl (by kernel_rfl) (by kernel_rfl) (by kernel_rfl) nrm (cond := fun _ => True) (.inl fun _ => trivial) p110.z (wN rfl) (fun _ _ => okFA (o' := 3) fo38_3 s111 rfl) trivial rfl fun a112 p113 sp113 => ?_
   refine hTakeW (i := 7) rfl (by kernel_rfl) (by kernel_rfl) (by kernel_rfl) nrm (cond := fun _ => True) (.inl fun _ => trivial) p113.z (wN rfl) (fun _ _ => okFA (o' := 4) fo36_1 sp113 rfl) trivial rfl fun a114 p115 sp115 => ?_
   refine hTakeW (i := 8) rfl (by kernel_rfl) (by kernel_rfl) (by kernel_rfl) nrm (.inr (.tail _ (.head _))) p115.z (wN rfl) (fun _ h => okLd (j := 0) na2 sp115 h rfl rfl) (m108.clp rfl) rfl fun a116 p117 sp117 => ?_
   have s118 := p117.o (p115.o (p113.o sp110 rfl) rfl) rfl
   have q119 := q41.mono g101.t0
   refine hOne (i := 3) (by kernel_rfl) rfl (oCall p117.z Tryd.call31 (ag1 s118) (c31 (b3 :: L) w2.drew cx102.lt q119 _ _ ht53) rfl fun v123 a120 w121 hp124 p122 sp122 => ?_)
   obtain ⟨rfl, g125⟩ := hp124
   have cx126 := cx102.ca g125
   refine ⟨⟨.inl (by kernel_rfl), .inr fun h => h.g0 g125, trivial⟩, ?_⟩
   refine hTakeW (i := 4) rfl (by kernel_rfl) (by kernel_rfl) (by kernel_rfl) nrm (cond := fun _ => True) (.inl fun _ => trivial) p122.z (wN rfl) (fun _ _ => okSAdd cst sp122 hz62) trivial rfl fun a127 p128 sp128 => ?_
   refine hTakeW (i := 5) rfl (by kernel_rfl) (by kernel_rfl) (by kernel_rfl) nrm (cond := fun _ => True) (.inl fun _ => trivial) p128.z (wN rfl) (fun _ _ => okSAdd sp128 cst hz67) trivial rfl fun a129 p130 sp130 => ?_
   have s131 := p130.o (p128.o (p122.o sp117 rfl) rfl) rfl
   have q132 := q119.mono g125.t0
   refine hOne (i := 9) (by kernel_rfl) rfl (oCall p130.z Tryd.call30 (ag2 s131 cst) (c30 (b3 :: L) w121 cx126.lt q132 _ _ _ ht84) rfl fun v136 a133 w134 hp137 p135 sp135 => ?_)
   obtain ⟨rfl, g138⟩ := hp137
   have cx139 := cx126.ca g138
   refine ⟨⟨.inl (by kernel_rfl), .inl (by kernel_rfl), trivial⟩, ?_⟩
   have s140 := p135.o sp130 rfl
   refine hTakeW (i := 10) rfl (by kernel_rfl) (by kernel_rfl) (by kernel_rfl) nrm (cond := fun _ => True) (.inl fun _ => trivial) p135.z (wN rfl) (fun _ _ => okSAdd s140 sp135 hz94) trivial rfl fun a141 p142 sp142 => ?_
   refine hTakeW (i := 11) rfl (by kernel_rfl) (by kernel_rfl) (by kernel_rfl) nrm (cond := fun _ => True) (.inl fun _ => trivial) p142.z (wN rfl) (fun _ _ => okAs sp142) trivial rfl fun a143 p144 sp144 => ?_
   have m145 := (m108.g0 g125).g0 g138
   exact hDone (by kernel_rfl) ⟨rfl, p144.z, sp144, m145, cx139, ((g101.t0.trans g125.t0).trans g138.t0)⟩
  rintro a146 w147 ⟨z148, s149, m150, cx151, t152⟩
  refine thenN ?_
  obtain rfl := Option.some.inj h
  exact wp_ret (blkR (thenR (ret1 z148 Tryd.results28 (rvT s149) ⟨_, rfl, rfl, cx151.g⟩)))
 replace h := (ifN hb40).symm.trans h
 refine wp_seq ?_
 refine reg ?_
 have s153 := p38.o (p35.o s28 rfl) rfl
 refine s1 p38.z (okEq s153 cst) rfl fun a154 p155 s156 => ?_
 refine s1 p155.z (okAs s156) rfl fun a157 p158 s159 => ?_
 refine rN (thenN ?_)
 have s160 := p158.o (p155.o s153 rfl) rfl
 have pg161 : Pg _ [7, 8, 20, 21] _ _ := (((((Pg.refl pg29.z).st p35 rfl).st p38 rfl).st p155 rfl).st p158 rfl)
 refine cnd s159 (fun hb162 => ?_) (fun hb162 => ?_)
 ·replace h := (ifP hb162).symm.trans h
  refine wp_seq ?_
  have q163 := vT.mono (g6.tA (Nat.le_of_eq e7.symm))
  obtain ⟨t171, ht172, h⟩ := Option.bind_eq_some_iff.1 h
  obtain ⟨z180, hz181, h⟩ := Option.bind_eq_some_iff.1 h
  obtain ⟨z185, hz186, h⟩ := Option.bind_eq_some_iff.1 h
  obtain ⟨t199, ht200, h⟩ := Option.bind_eq_some_iff.1 h
  obtain ⟨z209, hz210, h⟩ := Option.bind_eq_some_iff.1 h
  refine regJ (fun a' w' => Z Tryd.f28.ntmps a' ∧ a'.eval (.tmp 2) = .string ⟨z209.toArray⟩ ∧ Bk w' b3 (TEvent.C x0) 38 ∧ Cx [] w (b3 :: L) w' ∧ Tr (b3 :: L) w2 (b3 :: L) w') ?_ ?_
  ·refine regH (n := 10) [(1, fun w' => Cl w' b3 5 [.int .i64 x0.value]), (6, fun w' => Cl w' b3 6 [.int .i64 x0.got])] mixed rfl ?_
   have g217 := G.drew w2
   have cx218 := cx8.ca g217
   have s219 := pg161.o s26 rfl
   refine hTakeW (i := 0) rfl (by kernel_rfl) (by kernel_rfl) (by kernel_rfl) nrm (cond := fun _ => True) (.inl fun _ => trivial) pg161.z (wN rfl) (fun _ _ => okFA (o' := 5) fo38_4 s219 rfl) trivial rfl fun a220 p221 sp221 => ?_
   have m222 := m5.g0 g217
   refine hTakeW (i := 1) rfl (by kernel_rfl) (by kernel_rfl) (by kernel_rfl) nrm (.inr (.head _)) p221.z (wN rfl) (fun _ h => okLd (j := 0) na3 sp221 h rfl rfl) (m222.clp rfl) rfl fun a223 p224 sp224 => ?_
   have s225 := p224.o (p221.o s219 rfl) rfl
   refine hTakeW (i := 5) rfl (by kernel_rfl) (by kernel_rfl) (by kernel_rfl) nrm (cond := fun _ => True) (.inl fun _ => trivial) p224.z (wN rfl) (fun _ _ => okFA (o' := 6) fo38_5 s225 rfl) trivial rfl fun a226 p227 sp227 => ?_
   refine hTakeW (i := 6) rfl (by kernel_rfl) (by kernel_rfl) (by kernel_rfl) nrm (.inr (.tail _ (.head _))) p227.z (wN rfl) (fun _ h => okLd (j := 0) na3 sp227 h rfl rfl) (m222.clp rfl) rfl fun a228 p229 sp229 => ?_
   have s230 := p229.o (p227.o sp224 rfl) rfl
   have q231 := q163.mono g217.t0
   refine hOne (i := 2) (by kernel_rfl) rfl (oCall p229.z Tryd.call31 (ag1 s230) (c31 (b3 :: L) w2.drew cx218.lt q231 _ _ ht172) rfl fun v235 a232 w233 hp236 p234 sp234 => ?_)
   obtain ⟨rfl, g237⟩ := hp236
   have cx238 := cx218.ca g237
   refine ⟨⟨.inl (by kernel_rfl), .inr fun h => h.g0 g237, trivial⟩, ?_⟩
   refine hTakeW (i := 3) rfl (by kernel_rfl) (by kernel_rfl) (by kernel_rfl) nrm (cond := fun _ => True) (.inl fun _ => trivial) p234.z (wN rfl) (fun _ _ => okSAdd cst sp234 hz181) trivial rfl fun a239 p240 sp240 => ?_
   refine hTakeW (i := 4) rfl (by kernel_rfl) (by kernel_rfl) (by kernel_rfl) nrm (cond := fun _ => True) (.inl fun _ => trivial) p240.z (wN rfl) (fun _ _ => okSAdd sp240 cst hz186) trivial rfl fun a241 p242 sp242 => ?_
   have s243 := p242.o (p240.o (p234.o sp229 rfl) rfl) rfl
   have q244 := q231.mono g237.t0
   refine hOne (i := 7) (by kernel_rfl) rfl (oCall p242.z Tryd.call31 (ag1 s243) (c31 (b3 :: L) w233 cx238.lt q244 _ _ ht200) rfl fun v248 a245 w246 hp249 p247 sp247 => ?_)
   obtain ⟨rfl, g250⟩ := hp249
   have cx251 := cx238.ca g250
   refine ⟨⟨.inl (by kernel_rfl), .inl (by kernel_rfl), trivial⟩, ?_⟩
   have s252 := p247.o sp242 rfl
   refine hTakeW (i := 8) rfl (by kernel_rfl) (by kernel_rfl) (by kernel_rfl) nrm (cond := fun _ => True) (.inl fun _ => trivial) p247.z (wN rfl) (fun _ _ => okSAdd s252 sp247 hz210) trivial rfl fun a253 p254 sp254 => ?_
   refine hTakeW (i := 9) rfl (by kernel_rfl) (by kernel_rfl) (by kernel_rfl) nrm (cond := fun _ => True) (.inl fun _ => trivial) p254.z (wN rfl) (fun _ _ => okAs sp254) trivial rfl fun a255 p256 sp256 => ?_
   have m257 := (m222.g0 g237).g0 g250
   exact hDone (by kernel_rfl) ⟨rfl, p256.z, sp256, m257, cx251, ((g217.t0.trans g237.t0).trans g250.t0)⟩
  rintro a258 w259 ⟨z260, s261, m262, cx263, t264⟩
  refine thenN ?_
  obtain rfl := Option.some.inj h
  exact wp_ret (blkR (thenR (ret1 z260 Tryd.results28 (rvT s261) ⟨_, rfl, rfl, cx263.g⟩)))
 replace h := (ifN hb162).symm.trans h
 refine wp_seq ?_
 refine reg ?_
 refine s1 pg161.z (okEq s160 cst) rfl fun a265 p266 s267 => ?_
 refine s1 p266.z (okAs s267) rfl fun a268 p269 s270 => ?_
 refine rN (thenN ?_)
 refine cnd s270 (fun hb271 => ?_) (fun hb271 => ?_)
 ·replace h := (ifP hb271).symm.trans h
  refine wp_seq ?_
  refine reg ?_
  refine s1 p269.z (okAs cst) rfl fun a272 p273 s274 => ?_
  refine rN (thenN ?_)
  obtain rfl := Option.some.inj h
  exact wp_ret (blkR (thenR (ret1 p273.z Tryd.results28 (rvT s274) ⟨_, rfl, rfl, cx8.g⟩)))
 replace h := (ifN hb271).symm.trans h
 refine wp_skip (blkN (thenN ?_))
 refine wp_seq ?_
 refine reg ?_
 refine s1 p269.z (okAs cst) rfl fun a275 p276 s277 => ?_
 refine rN (thenN ?_)
 obtain rfl := Option.some.inj h
 exact wp_ret (ret1 p276.z Tryd.results28 (rvT s277) ⟨_, rfl, rfl, cx8.g⟩)





set_option maxHeartbeats 4000000 in
set_option maxRecDepth 100000 in
theorem c20 (k : Nat) (L : List Nat) (w : World) (hL : ∀ b ∈ L, b < w.heap.size) (vT : TabA L w) (x0 : List TEvent) (h0 : Value) (qh0 : RdS KTEvent L w h0 x0) (r : (List UInt8)) (h : hist_Text k x0 = some r) : Calls Tryd.prog 20 #[h0] w (fun e w' => ∃ v, e = .returned v ∧ v = .string ⟨r.toArray⟩ ∧ G [] w w') := by
 refine enterF Tryd.func20 rfl rfl fun a0 z0 A => ?_
 have s0_0 := A 0 (h0) rfl
 clear A
 have c0 : Cx [] w L w := ⟨G.refl _ _, hL⟩
 unfold hist_Text at h
 refine wp_seq ?_
 refine reg ?_
 refine s1 z0 (okAs cst) rfl fun a1 p2 s3 => ?_
 refine rN (thenN ?_)
 refine wp_seq ?_
 refine reg ?_
 refine lS (oAlloc zv68 p2.z rfl fun a4 w5 b6 p7 sp7 m8 g9 e10 => ?_)
 have f12 := c0.nw e10
 have cx11 := c0.al g9 m8
 have m13 := Bld.new m8
 refine rN (thenN ?_)
 refine wp_seq ?_
 refine wp_seq ?_
 refine reg ?_
 have s14 := p7.o (p2.o s0_0 rfl) rfl
 refine s1 p7.z (okMv s14) rfl fun a15 p16 s17 => ?_
 have q18 := qh0.mono (g9.tA (Nat.le_of_eq e10.symm))
 refine s1 p16.z (okLenR Tryd.underlying22 s17 q18) rfl fun a19 p20 s21 => ?_
 refine s1 p20.z (okMv cst) rfl fun a22 p23 s24 => ?_
 refine rN (thenN ?_)
 refine wp_block ?_
 obtain ⟨o27, ho28, h⟩ := Option.bind_eq_some_iff.1 h
 have s31 := p23.o (p20.o (p16.o (p7.o s3 rfl) rfl) rfl) rfl
 have s32 := p23.o (p20.o (p16.o sp7 rfl) rfl) rfl
 have s33 := p23.o (p20.o s17 rfl) rfl
 have s34 := p23.o s21 rfl
 have q35 := vT.mono (g9.tA (Nat.le_of_eq e10.symm))
 refine loopX (I := (fun k' a' w' => ∃ i25 i26 h29, Z Tryd.f20.ntmps a' ∧ a'.eval (.tmp 2) = .string ⟨[].toArray⟩ ∧ a'.eval (.tmp 3) = ptr b6 0 ∧ a'.eval (.tmp 7) = h0 ∧ a'.eval (.tmp 8) = .int .i64 (x0.length : Int) ∧ a'.eval (.tmp 9) = .int .i64 i26 ∧ Bld w' b6 h29 68 ∧ RdS KTEvent (ownB h29 ++ (b6 :: L)) w' h0 x0 ∧ OwnS (KInt .u8) 5 (ownB h29 ++ (b6 :: L)) w' h29 i25 ∧ TabA (ownB h29 ++ (b6 :: L)) w' ∧ Cx [] w (ownB h29 ++ (b6 :: L)) w' ∧ (∀ x ∈ ownB h29, x ∉ L) ∧ (∀ x ∈ ownB h29, x ∈ [] ∨ w.heap.size ≤ x) ∧ b6 ∉ ownB h29 ∧ hist_Text.l0 x0 k' i25 i26 = some o27)) 0 (fun a' w' => ∃ h30, Z Tryd.f20.ntmps a' ∧ a'.eval (.tmp 2) = .string ⟨[].toArray⟩ ∧ a'.eval (.tmp 3) = ptr b6 0 ∧ Bld w' b6 h30 68 ∧ OwnS (KInt .u8) 5 (ownB h30 ++ (b6 :: L)) w' h30 o27 ∧ TabA (ownB h30 ++ (b6 :: L)) w' ∧ Cx [] w (ownB h30 ++ (b6 :: L)) w' ∧ (∀ x ∈ ownB h30, x ∉ L) ∧ (∀ x ∈ ownB h30, x ∈ [] ∨ w.heap.size ≤ x) ∧ b6 ∉ ownB h30) ⟨[], 0, (.slice none 0 0), p23.z, s31, s32, s33, s34, s24, m13, (q18.mono ((Tr.refl _ _).sub (fun i h => (List.mem_append.1 h).elim (fun h => nilO h) (fun h => h)))), OwnS.nil, (q35.mono ((Tr.refl _ _).sub (fun i h => (List.mem_append.1 h).elim (fun h => nilO h) (fun h => h)))), (cx11.sub (fun i h => (List.mem_append.1 h).elim (fun h => nilO h) (fun h => h))), (fun _ h => nilO h), (fun _ h => nilO h), (fun h => nilO h), ho28⟩ ?_ ?_
 ·have oh50 := h; clear h ho28
  rintro k36 a37 w38 ⟨i25, i26, h29, z39, s40, s41, s42, s43, s44, m45, q46, q47, q48, cx49, n51, n52, n53, h⟩
  obtain _ | k := k36
  case zero => cases h
  rw [hist_Text.l0] at h
  refine wp_seq ?_
  refine reg ?_
  refine s1 z39 (okLt s44 s43) rfl fun a54 p55 s56 => ?_
  refine rN (thenN ?_)
  refine wp_seq ?_
  refine cnd s56 (fun hb57 => ?_) (fun hb57 => ?_)
  ·replace h := (ifP hb57).symm.trans h
   refine wp_skip (thenN ?_)
   refine wp_seq ?_
   refine wp_block ?_
   refine wp_seq ?_
   refine reg ?_
   have s58 := p55.o s42 rfl
   have s59 := p55.o s44 rfl
   obtain ⟨y60, hy61, h⟩ := Option.bind_eq_some_iff.1 h
   obtain ⟨b62, o63, cs64, r66, e67, nb68, k65⟩ := q46.at_ hy61
   obtain rfl := r66
   refine s1 p55.z (k65 Tryd.underlying22 Tryd.sizeOf38 s58 s59 _) rfl fun a69 p70 s71 => ?_
   refine s1 p70.z (okLdA ag38 s71 e67 rfl rfl whole) rfl fun a72 p73 s74 => ?_
   refine lS (oAlloc zv38 p73.z rfl fun a75 w76 b77 p78 sp78 m79 g80 e81 => ?_)
   have f83 := cx49.nw e81
   have cx82 := cx49.al g80 m79
   have s84 := p78.o s74 rfl
   refine lS (oStoW (cs := TEvent.C y60) p78.z sp78 s84 m79 Tryd.sizeOf38 rfl (TEvent.C_one _) rfl fun w85 m86 g87 => ?_)
   have cx88 := cx82.st g87 f83
   refine rN (thenN ?_)
   refine wp_seq ?_
   refine reg ?_
   refine s1 p78.z (okLdA ag38 sp78 (m86.cl) rfl rfl whole) rfl fun a89 p90 s91 => ?_
   have q92 := q48.mono ((g80.tA (Nat.le_of_eq e81.symm)).trans (g87.t1 (.head _)))
   obtain ⟨t93, ht94, h⟩ := Option.bind_eq_some_iff.1 h
   refine lS (oCall p90.z Tryd.call28 (ag1 s91) (c28 (b77 :: (ownB h29 ++ (b6 :: L))) w85 cx88.lt q92 _ _ ht94) rfl fun v98 a95 w96 hp99 p97 sp97 => ?_)
   obtain ⟨rfl, g100⟩ := hp99
   have cx101 := cx88.ca g100
   refine s1 p97.z (okAs sp97) rfl fun a102 p103 s104 => ?_
   refine rN (thenN ?_)
   refine wp_seq ?_
   refine reg ?_
   refine s1 p103.z (okMv s104) rfl fun a105 p106 s107 => ?_
   refine s1 p106.z (okStrNe s107 cst) rfl fun a108 p109 s110 => ?_
   refine rN (thenN ?_)
   have s111 := p109.o (p106.o (p103.o (p97.o (p90.o (p78.o (p73.o (p70.o s58 rfl) rfl) rfl) rfl) rfl) rfl) rfl) rfl
   have s112 := p109.o (p106.o (p103.o (p97.o (p90.o (p78.o (p73.o (p70.o s59 rfl) rfl) rfl) rfl) rfl) rfl) rfl) rfl
   have s113 := p109.o (p106.o (p103.o (p97.o (p90.o (p78.o (p73.o (p70.o s56 rfl) rfl) rfl) rfl) rfl) rfl) rfl) rfl
   have s114 := p109.o (p106.o (p103.o (p97.o (p90.o (p78.o (p73.o s71 rfl) rfl) rfl) rfl) rfl) rfl) rfl
   have s115 := p109.o (p106.o (p103.o (p97.o (p90.o s84 rfl) rfl) rfl) rfl) rfl
   have s116 := p109.o (p106.o (p103.o (p97.o (p90.o sp78 rfl) rfl) rfl) rfl) rfl
   have s117 := p109.o (p106.o (p103.o (p97.o s91 rfl) rfl) rfl) rfl
   have s118 := p109.o (p106.o (p103.o sp97 rfl) rfl) rfl
   have s119 := p109.o (p106.o s104 rfl) rfl
   have s120 := p109.o s107 rfl
   have pg121 : Pg _ [5, 6, 10, 11, 12, 13, 14, 15, 16] _ _ := ((((((((((Pg.refl z39).st p55 rfl).st p70 rfl).st p73 rfl).st p78 rfl).st p90 rfl).st p97 rfl).st p103 rfl).st p106 rfl).st p109 rfl)
   refine cnd s110 (fun hb122 => ?_) (fun hb122 => ?_)
   ·replace h := (ifP hb122).symm.trans h
    have q123 := q46.mono (((g80.tA (Nat.le_of_eq e81.symm)).trans (g87.t1 (.head _))).trans g100.t0)
    have q124 := ((q47.t0 (g80.tA (Nat.le_of_eq e81.symm)) g80).t1 (g87.t1 (.head _)) g87 (q47.nb e81)).t0 g100.t0 g100
    have q125 := q92.mono g100.t0
    obtain ⟨t133, ht134, h⟩ := Option.bind_eq_some_iff.1 h
    obtain ⟨z142, hz143, h⟩ := Option.bind_eq_some_iff.1 h
    obtain ⟨t156, ht157, h⟩ := Option.bind_eq_some_iff.1 h
    obtain ⟨z166, hz167, h⟩ := Option.bind_eq_some_iff.1 h
    obtain ⟨z171, hz172, h⟩ := Option.bind_eq_some_iff.1 h
    obtain ⟨z181, hz182, h⟩ := Option.bind_eq_some_iff.1 h
    obtain ⟨z186, hz187, h⟩ := Option.bind_eq_some_iff.1 h
    obtain ⟨t195, ht196, h⟩ := Option.bind_eq_some_iff.1 h
    have s215 := pg121.o s40 rfl
    have s216 := pg121.o s41 rfl
    have s217 := pg121.o s43 rfl
    have m218 := ((m45.g0 g80).g1 g87 (m45.ne e81)).g0 g100
    have m219 := m86.g0 g100
    refine regJ (fun a' w' => ∃ h203, Z Tryd.f20.ntmps a' ∧ a'.eval (.tmp 2) = .string ⟨[].toArray⟩ ∧ a'.eval (.tmp 3) = ptr b6 0 ∧ a'.eval (.tmp 7) = h0 ∧ a'.eval (.tmp 8) = .int .i64 (x0.length : Int) ∧ a'.eval (.tmp 9) = .int .i64 i26 ∧ a'.eval (.tmp 10) = .bool (decide (i26 < (x0.length : Int))) ∧ a'.eval (.tmp 11) = ptr b62 o63 ∧ a'.eval (.tmp 12) = .agg (TEvent.C y60).toArray ∧ a'.eval (.tmp 5) = ptr b77 0 ∧ a'.eval (.tmp 13) = .agg (TEvent.C y60).toArray ∧ a'.eval (.tmp 14) = .string ⟨t93.toArray⟩ ∧ a'.eval (.tmp 6) = .string ⟨t93.toArray⟩ ∧ a'.eval (.tmp 15) = .string ⟨t93.toArray⟩ ∧ a'.eval (.tmp 16) = .bool (t93 != []) ∧ a'.eval (.tmp 17) = ptr b77 2 ∧ a'.eval (.tmp 18) = .int .i64 y60.now ∧ a'.eval (.tmp 19) = .string ⟨t133.toArray⟩ ∧ a'.eval (.tmp 20) = .string ⟨z142.toArray⟩ ∧ a'.eval (.tmp 21) = ptr b77 1 ∧ a'.eval (.tmp 22) = .int .i64 y60.thread ∧ a'.eval (.tmp 23) = .string ⟨t156.toArray⟩ ∧ a'.eval (.tmp 24) = .string ⟨z166.toArray⟩ ∧ a'.eval (.tmp 25) = .string ⟨z171.toArray⟩ ∧ a'.eval (.tmp 26) = .string ⟨t93.toArray⟩ ∧ a'.eval (.tmp 27) = .string ⟨z181.toArray⟩ ∧ a'.eval (.tmp 28) = .string ⟨z186.toArray⟩ ∧ Bld w' b6 h203 68 ∧ Bk w' b77 (TEvent.C y60) 38 ∧ OwnS (KInt .u8) 5 (ownB h203 ++ (b77 :: b6 :: L)) w' h203 t195.2.2.buf ∧ Cx [] w (ownB h203 ++ (b77 :: b6 :: L)) w' ∧ Tr (b77 :: (ownB h29 ++ (b6 :: L))) w96 (ownB h203 ++ (b77 :: b6 :: L)) w' ∧ (∀ x ∈ ownB h203, x ∉ L) ∧ (∀ x ∈ ownB h203, x ∈ [] ∨ w.heap.size ≤ x) ∧ b6 ∉ ownB h203 ∧ b77 ∉ ownB h203) ?_ ?_
    ·refine regH (n := 13) [(1, fun w' => Cl w' b77 2 [.int .i64 y60.now]), (5, fun w' => Cl w' b77 1 [.int .i64 y60.thread])] mixed rfl ?_
     have g220 := G.drew w96
     have cx221 := cx101.ca g220
     refine hTakeW (i := 0) rfl (by kernel_rfl) (by kernel_rfl) (by kernel_rfl) nrm (cond := fun _ => True) (.inl fun _ => trivial) pg121.z (wN rfl) (fun _ _ => okFA (o' := 2) fo38_2 s116 rfl) trivial rfl fun a222 p223 sp223 => ?_
     have m224 := m219.g0 g220
     refine hTakeW (i := 1) rfl (by kernel_rfl) (by kernel_rfl) (by kernel_rfl) nrm (.inr (.head _)) p223.z (wN rfl) (fun _ h => okLd (j := 0) na2 sp223 h rfl rfl) (m224.clp rfl) rfl fun a225 p226 sp226 => ?_
     have s227 := p226.o (p223.o s116 rfl) rfl
     refine hTakeW (i := 4) rfl (by kernel_rfl) (by kernel_rfl) (by kernel_rfl) nrm (cond := fun _ => True) (.inl fun _ => trivial) p226.z (wN rfl) (fun _ _ => okFA (o' := 1) fo38_1 s227 rfl) trivial rfl fun a228 p229 sp229 => ?_
     refine hTakeW (i := 5) rfl (by kernel_rfl) (by kernel_rfl) (by kernel_rfl) nrm (.inr (.tail _ (.head _))) p229.z (wN rfl) (fun _ h => okLd (j := 0) na3 sp229 h rfl rfl) (m224.clp rfl) rfl fun a230 p231 sp231 => ?_
     have s232 := p231.o (p229.o (p226.o (p223.o s119 rfl) rfl) rfl) rfl
     refine hTakeW (i := 9) rfl (by kernel_rfl) (by kernel_rfl) (by kernel_rfl) nrm (cond := fun _ => True) (.inl fun _ => trivial) p231.z (wN rfl) (fun _ _ => okMv s232) trivial rfl fun a233 p234 sp234 => ?_
     have s235 := p234.o (p231.o (p229.o sp226 rfl) rfl) rfl
     have q236 := q125.mono g220.t0
     refine hOne (i := 2) (by kernel_rfl) rfl (oCall p234.z Tryd.call30 (ag2 s235 cst) (c30 (b77 :: (ownB h29 ++ (b6 :: L))) w96.drew cx221.lt q236 _ _ _ ht134) rfl fun v240 a237 w238 hp241 p239 sp239 => ?_)
     obtain ⟨rfl, g242⟩ := hp241
     have cx243 := cx221.ca g242
     refine ⟨⟨.inl (by kernel_rfl), .inr fun h => h.g0 g242, trivial⟩, ?_⟩
     refine hTakeW (i := 3) rfl (by kernel_rfl) (by kernel_rfl) (by kernel_rfl) nrm (cond := fun _ => True) (.inl fun _ => trivial) p239.z (wN rfl) (fun _ _ => okSAdd sp239 cst hz143) trivial rfl fun a244 p245 sp245 => ?_
     have s246 := p245.o (p239.o (p234.o sp231 rfl) rfl) rfl
     have q247 := q236.mono g242.t0
     refine hOne (i := 6) (by kernel_rfl) rfl (oCall p245.z Tryd.call31 (ag1 s246) (c31 (b77 :: (ownB h29 ++ (b6 :: L))) w238 cx243.lt q247 _ _ ht157) rfl fun v251 a248 w249 hp252 p250 sp250 => ?_)
     obtain ⟨rfl, g253⟩ := hp252
     have cx254 := cx243.ca g253
     refine ⟨⟨.inl (by kernel_rfl), .inl (by kernel_rfl), trivial⟩, ?_⟩
     have s255 := p250.o sp245 rfl
     refine hTakeW (i := 7) rfl (by kernel_rfl) (by kernel_rfl) (by kernel_rfl) nrm (cond := fun _ => True) (.inl fun _ => trivial) p250.z (wN rfl) (fun _ _ => okSAdd s255 sp250 hz167) trivial rfl fun a256 p257 sp257 => ?_
     refine hTakeW (i := 8) rfl (by kernel_rfl) (by kernel_rfl) (by kernel_rfl) nrm (cond := fun _ => True) (.inl fun _ => trivial) p257.z (wN rfl) (fun _ _ => okSAdd sp257 cst hz172) trivial rfl fun a258 p259 sp259 => ?_
     have s260 := p259.o (p257.o (p250.o (p245.o (p239.o sp234 rfl) rfl) rfl) rfl) rfl
     refine hTakeW (i := 10) rfl (by kernel_rfl) (by kernel_rfl) (by kernel_rfl) nrm (cond := fun _ => True) (.inl fun _ => trivial) p259.z (wN rfl) (fun _ _ => okSAdd sp259 s260 hz182) trivial rfl fun a261 p262 sp262 => ?_
     refine hTakeW (i := 11) rfl (by kernel_rfl) (by kernel_rfl) (by kernel_rfl) nrm (cond := fun _ => True) (.inl fun _ => trivial) p262.z (wN rfl) (fun _ _ => okSAdd sp262 cst hz187) trivial rfl fun a263 p264 sp264 => ?_
     have s265 := p264.o (p262.o (p259.o (p257.o (p250.o (p245.o (p239.o (p234.o (p231.o (p229.o (p226.o (p223.o s216 rfl) rfl) rfl) rfl) rfl) rfl) rfl) rfl) rfl) rfl) rfl) rfl
     have m266 := ((m218.g0 g220).g0 g242).g0 g253
     have q267 := ((q124.t0 g220.t0 g220).t0 g242.t0 g242).t0 g253.t0 g253
     have m268 := (m224.g0 g242).g0 g253
     refine hOne (i := 12) (by kernel_rfl) rfl (oCall p264.z Tryd.call29 (ag2 s265 sp264) (c29 (b77 :: L) w249 (⟨i25⟩ : Tstrings_Builder) b6 h29 z186 (fun i h => cx254.lt i ((List.mem_cons.1 h).elim (fun e => e ▸ (.tail _ (List.mem_append_right _ (.head _)))) (fun h => (List.mem_append.1 h).elim (fun h => (.tail _ (List.mem_append_left _ h))) (fun h => (List.mem_cons.1 h).elim (fun e => e ▸ (.head _)) (fun h => (.tail _ (List.mem_append_right _ (.tail _ h)))))))) (sepC (show ∀ x ∈ [b6], x ∉ (ownB h29 ++ (b77 :: L)) from (in1 (na n53 (nc (m45.ne e81) (fun h => Nat.lt_irrefl _ (Nat.lt_of_lt_of_le (hL _ h) f12)))))) (sepC (show ∀ x ∈ ownB h29, x ∉ (b77 :: L) from (fun x hx => (nc (nbo (q47.nb e81) hx) (n51 x hx)))) sepN)) m266 (q267.sub (fun i h => (List.mem_cons.1 h).elim (fun e => e ▸ (.tail _ (List.mem_append_right _ (.head _)))) (fun h => (List.mem_append.1 h).elim (fun h => (.tail _ (List.mem_append_left _ h))) (fun h => (List.mem_cons.1 h).elim (fun e => e ▸ (.head _)) (fun h => (.tail _ (List.mem_append_right _ (.tail _ h)))))))) _ ht196) rfl fun v272 a269 w270 hp273 p271 sp271 => ?_)
     obtain ⟨h274, h275, rfl, q276, m277, q278, D279, f282, lt280, g281⟩ := hp273
     have hs283 : ∀ i ∈ (b6 :: (ownB h29 ++ [])), i ∈ [] ∨ w.heap.size ≤ i := (memC (.inr f12) (memA n52 memN))
     have hs284 : ∀ i ∈ (b6 :: (ownB h29 ++ [])), i ∈ (b77 :: (ownB h29 ++ (b6 :: L))) := (memC (.tail _ (List.mem_append_right _ (.head _))) (memA (fun _ h => (.tail _ (List.mem_append_left _ h))) memN))
     have t285 : Tr (b77 :: (ownB h29 ++ (b6 :: L))) w249 (b6 :: (ownB h275 ++ (b77 :: L))) w270 := G.tC g281 hs284 (memC (.inl (.tail _ (List.mem_append_right _ (.head _)))) (memA (frL f282 hs284) (fun i h => .inl ((List.mem_cons.1 h).elim (fun e => e ▸ (.head _)) (fun h => (.tail _ (List.mem_append_right _ (.tail _ h))))))))
     have cx286 := cx254.gs g281 hs283 lt280
     refine ⟨⟨.inl (by kernel_rfl), .inl (by kernel_rfl), trivial⟩, ?_⟩
     have s287 := p271.o (p264.o (p262.o (p259.o (p257.o (p250.o (p245.o (p239.o (p234.o (p231.o (p229.o (p226.o (p223.o s215 rfl) rfl) rfl) rfl) rfl) rfl) rfl) rfl) rfl) rfl) rfl) rfl) rfl
     have s288 := p271.o s265 rfl
     have s289 := p271.o (p264.o (p262.o (p259.o (p257.o (p250.o (p245.o (p239.o (p234.o (p231.o (p229.o (p226.o (p223.o s111 rfl) rfl) rfl) rfl) rfl) rfl) rfl) rfl) rfl) rfl) rfl) rfl) rfl
     have s290 := p271.o (p264.o (p262.o (p259.o (p257.o (p250.o (p245.o (p239.o (p234.o (p231.o (p229.o (p226.o (p223.o s217 rfl) rfl) rfl) rfl) rfl) rfl) rfl) rfl) rfl) rfl) rfl) rfl) rfl
     have s291 := p271.o (p264.o (p262.o (p259.o (p257.o (p250.o (p245.o (p239.o (p234.o (p231.o (p229.o (p226.o (p223.o s112 rfl) rfl) rfl) rfl) rfl) rfl) rfl) rfl) rfl) rfl) rfl) rfl) rfl
     have s292 := p271.o (p264.o (p262.o (p259.o (p257.o (p250.o (p245.o (p239.o (p234.o (p231.o (p229.o (p226.o (p223.o s113 rfl) rfl) rfl) rfl) rfl) rfl) rfl) rfl) rfl) rfl) rfl) rfl) rfl
     have s293 := p271.o (p264.o (p262.o (p259.o (p257.o (p250.o (p245.o (p239.o (p234.o (p231.o (p229.o (p226.o (p223.o s114 rfl) rfl) rfl) rfl) rfl) rfl) rfl) rfl) rfl) rfl) rfl) rfl) rfl
     have s294 := p271.o (p264.o (p262.o (p259.o (p257.o (p250.o (p245.o (p239.o (p234.o (p231.o (p229.o (p226.o (p223.o s115 rfl) rfl) rfl) rfl) rfl) rfl) rfl) rfl) rfl) rfl) rfl) rfl) rfl
     have s295 := p271.o (p264.o (p262.o (p259.o (p257.o (p250.o (p245.o (p239.o (p234.o (p231.o (p229.o s227 rfl) rfl) rfl) rfl) rfl) rfl) rfl) rfl) rfl) rfl) rfl
     have s296 := p271.o (p264.o (p262.o (p259.o (p257.o (p250.o (p245.o (p239.o (p234.o (p231.o (p229.o (p226.o (p223.o s117 rfl) rfl) rfl) rfl) rfl) rfl) rfl) rfl) rfl) rfl) rfl) rfl) rfl
     have s297 := p271.o (p264.o (p262.o (p259.o (p257.o (p250.o (p245.o (p239.o (p234.o (p231.o (p229.o (p226.o (p223.o s118 rfl) rfl) rfl) rfl) rfl) rfl) rfl) rfl) rfl) rfl) rfl) rfl) rfl
     have s298 := p271.o (p264.o (p262.o (p259.o (p257.o (p250.o (p245.o (p239.o (p234.o s232 rfl) rfl) rfl) rfl) rfl) rfl) rfl) rfl) rfl
     have s299 := p271.o (p264.o (p262.o (p259.o (p257.o (p250.o (p245.o (p239.o (p234.o (p231.o (p229.o (p226.o (p223.o s120 rfl) rfl) rfl) rfl) rfl) rfl) rfl) rfl) rfl) rfl) rfl) rfl) rfl
     have s300 := p271.o (p264.o (p262.o (p259.o (p257.o (p250.o (p245.o (p239.o (p234.o (p231.o (p229.o (p226.o (p223.o s110 rfl) rfl) rfl) rfl) rfl) rfl) rfl) rfl) rfl) rfl) rfl) rfl) rfl
     have s301 := p271.o (p264.o (p262.o (p259.o (p257.o (p250.o (p245.o (p239.o (p234.o (p231.o (p229.o (p226.o sp223 rfl) rfl) rfl) rfl) rfl) rfl) rfl) rfl) rfl) rfl) rfl) rfl
     have s302 := p271.o (p264.o (p262.o (p259.o (p257.o (p250.o (p245.o (p239.o s235 rfl) rfl) rfl) rfl) rfl) rfl) rfl) rfl
     have s303 := p271.o (p264.o (p262.o (p259.o (p257.o (p250.o (p245.o sp239 rfl) rfl) rfl) rfl) rfl) rfl) rfl
     have s304 := p271.o (p264.o (p262.o (p259.o (p257.o s255 rfl) rfl) rfl) rfl) rfl
     have s305 := p271.o (p264.o (p262.o (p259.o (p257.o (p250.o (p245.o (p239.o (p234.o (p231.o sp229 rfl) rfl) rfl) rfl) rfl) rfl) rfl) rfl) rfl) rfl
     have s306 := p271.o (p264.o (p262.o (p259.o (p257.o (p250.o s246 rfl) rfl) rfl) rfl) rfl) rfl
     have s307 := p271.o (p264.o (p262.o (p259.o (p257.o sp250 rfl) rfl) rfl) rfl) rfl
     have s308 := p271.o (p264.o (p262.o (p259.o sp257 rfl) rfl) rfl) rfl
     have s309 := p271.o (p264.o (p262.o sp259 rfl) rfl) rfl
     have s310 := p271.o (p264.o (p262.o s260 rfl) rfl) rfl
     have s311 := p271.o (p264.o sp262 rfl) rfl
     have s312 := p271.o sp264 rfl
     have m313 := m268.g g281 (nc (m45.ne e81).symm (na (q47.nb e81) not_nil))
     exact hDone (by kernel_rfl) ⟨rfl, h275, p271.z, s287, s288, s289, s290, s291, s292, s293, s294, s295, s296, s297, s298, s299, s300, s301, s302, s303, s304, s305, s306, s307, s308, s309, s310, s311, s312, m277, m313, (q278.sub (fun i h => (List.mem_append.1 h).elim (fun h => (.tail _ (List.mem_append_left _ h))) (fun h => (List.mem_cons.1 h).elim (fun e => e ▸ (.tail _ (List.mem_append_right _ (.head _)))) (fun h => (List.mem_cons.1 h).elim (fun e => e ▸ (.head _)) (fun h => (.tail _ (List.mem_append_right _ (.tail _ h)))))))), (cx286.sub (fun i h => (List.mem_append.1 h).elim (fun h => (.tail _ (List.mem_append_left _ h))) (fun h => (List.mem_cons.1 h).elim (fun e => e ▸ (.tail _ (List.mem_append_right _ (.head _)))) (fun h => (List.mem_cons.1 h).elim (fun e => e ▸ (.head _)) (fun h => (.tail _ (List.mem_append_right _ (.tail _ h)))))))), ((((g220.t0.trans g242.t0).trans g253.t0).trans t285).sub (fun i h => (List.mem_append.1 h).elim (fun h => (.tail _ (List.mem_append_left _ h))) (fun h => (List.mem_cons.1 h).elim (fun e => e ▸ (.tail _ (List.mem_append_right _ (.head _)))) (fun h => (List.mem_cons.1 h).elim (fun e => e ▸ (.head _)) (fun h => (.tail _ (List.mem_append_right _ (.tail _ h)))))))), (fun x hx hl => D279.dl (i := 1) rfl x hx (.tail _ hl)), (frC f282 hs283 cx254.g.sz), (D279.bo (i := 0) (j := 1) rfl rfl rfl), (fun hb => D279.dl (i := 1) rfl _ hb (.head _))⟩
    rintro a314 w315 ⟨h317, z316, s318, s319, s320, s321, s322, s323, s324, s325, s326, s327, s328, s329, s330, s331, s332, s333, s334, s335, s336, s337, s338, s339, s340, s341, s342, s343, m344, m345, q346, cx347, t348, n349, n350, n351, n352⟩
    refine blkN (thenN ?_)
    refine reg ?_
    refine s1 z316 (okAdd s322 cst) rfl fun a353 p354 s355 => ?_
    refine s1 p354.z (okMv s355) rfl fun a356 p357 s358 => ?_
    have s359 := p357.o (p354.o s318 rfl) rfl
    have s360 := p357.o (p354.o s319 rfl) rfl
    have s361 := p357.o (p354.o s320 rfl) rfl
    have s362 := p357.o (p354.o s321 rfl) rfl
    have q363 := q123.mono t348
    have q364 := q125.mono t348
    exact rN (thenN ⟨k, Nat.lt_succ_self k, t195.2.2.buf, (w64 (i26 + 1)), h317, p357.z, s359, s360, s361, s362, s358, m344, (q363.mono ((Tr.refl _ _).sub (fun i h => (List.mem_append.1 h).elim (fun h => (List.mem_append_left _ h)) (fun h => (List.mem_append_right _ (.tail _ h)))))), (q346.sub (fun i h => (List.mem_append.1 h).elim (fun h => (List.mem_append_left _ h)) (fun h => (List.mem_append_right _ (.tail _ h))))), (q364.mono ((Tr.refl _ _).sub (fun i h => (List.mem_append.1 h).elim (fun h => (List.mem_append_left _ h)) (fun h => (List.mem_append_right _ (.tail _ h)))))), (cx347.sub (fun i h => (List.mem_append.1 h).elim (fun h => (List.mem_append_left _ h)) (fun h => (List.mem_append_right _ (.tail _ h))))), n349, n350, n351, h⟩)
   replace h := (ifN hb122).symm.trans h
   refine wp_skip (blkN (thenN ?_))
   refine reg ?_
   refine s1 pg121.z (okAdd s112 cst) rfl fun a365 p366 s367 => ?_
   refine s1 p366.z (okMv s367) rfl fun a368 p369 s370 => ?_
   have s371 := p369.o (p366.o (pg121.o s40 rfl) rfl) rfl
   have s372 := p369.o (p366.o (pg121.o s41 rfl) rfl) rfl
   have s373 := p369.o (p366.o s111 rfl) rfl
   have s374 := p369.o (p366.o (pg121.o s43 rfl) rfl) rfl
   have m375 := ((m45.g0 g80).g1 g87 (m45.ne e81)).g0 g100
   have q376 := q46.mono (((g80.tA (Nat.le_of_eq e81.symm)).trans (g87.t1 (.head _))).trans g100.t0)
   have q377 := ((q47.t0 (g80.tA (Nat.le_of_eq e81.symm)) g80).t1 (g87.t1 (.head _)) g87 (q47.nb e81)).t0 g100.t0 g100
   have q378 := q92.mono g100.t0
   exact rN (thenN ⟨k, Nat.lt_succ_self k, i25, (w64 (i26 + 1)), h29, p369.z, s371, s372, s373, s374, s370, m375, (q376.mono ((Tr.refl _ _).sub (fun i h => (.tail _ h)))), (q377.sub (fun i h => (.tail _ h))), (q378.mono ((Tr.refl _ _).sub (fun i h => (.tail _ h)))), (cx101.sub (fun i h => (.tail _ h))), n51, n52, n53, h⟩)
  replace h := (ifN hb57).symm.trans h
  obtain rfl := Option.some.inj h
  have s379 := p55.o s40 rfl
  have s380 := p55.o s41 rfl
  exact wp_exit (thenE (thenE (jqE ⟨h29, p55.z, s379, s380, m45, q47, q48, cx49, n51, n52, n53⟩)))
 clear ho28
 rintro a381 w382 ⟨h30, z383, s384, s385, m386, q387, q388, cx389, n390, n391, n392⟩
 refine blkE (thenN ?_)
 refine wp_seq ?_
 refine reg ?_
 obtain ⟨y393, hy394, h⟩ := Option.bind_eq_some_iff.1 h
 refine lS (oCall z383 Tryd.call32 (ag1 s385) (c32 m386 (q387) f12 (fun x hx => (n391 x hx).resolve_left List.not_mem_nil) n392 (z := y393) hy394) rfl fun v398 a395 w396 r399 p397 sp397 => ?_)
 obtain ⟨rfl, be402⟩ := r399
 have cx400 : Cx [] w L w396 := ⟨G.tb cx389.g be402, fun b h => Nat.lt_of_lt_of_le (hL b h) (G.tb cx389.g be402).sz⟩
 have q403 := qh0.mono cx400.g.t0
 refine s1 p397.z (okAs sp397) rfl fun a404 p405 s406 => ?_
 refine rN (thenN ?_)
 obtain rfl := Option.some.inj h
 exact wp_ret (ret1 p405.z Tryd.results20 (rvT s406) ⟨_, rfl, rfl, cx400.g⟩)

set_option maxHeartbeats 4000000 in
set_option maxRecDepth 100000 in
theorem c18 (k : Nat) (L : List Nat) (w : World) (hL : ∀ b ∈ L, b < w.heap.size) (x0 : List TEvent) (h0 : Value) (qh0 : RdS KTEvent L w h0 x0) (x1 : Int) (r : (List Int)) (h : hist_Order k x0 x1 = some r) : Calls Tryd.prog 18 #[h0, .int .i64 x1] w (fun e w' => ∃ v, e = .returned v ∧ RdS (KInt .i64) L w' v r ∧ G [] w w') := by
 refine enterF Tryd.func18 rfl rfl fun a0 z0 A => ?_
 have s0_0 := A 0 (h0) rfl
 have s0_1 := A 1 (.int .i64 x1) rfl
 clear A
 have c0 : Cx [] w L w := ⟨G.refl _ _, hL⟩
 unfold hist_Order at h
 refine wp_seq ?_
 refine reg ?_
 refine s1 z0 (okAs cst) rfl fun a1 p2 s3 => ?_
 refine rN (thenN ?_)
 refine wp_seq ?_
 refine reg ?_
 refine s1 p2.z (okAs cst) rfl fun a4 p5 s6 => ?_
 refine rN (thenN ?_)
 refine wp_seq ?_
 refine wp_seq ?_
 refine reg ?_
 have s7 := p5.o (p2.o s0_0 rfl) rfl
 refine s1 p5.z (okMv s7) rfl fun a8 p9 s10 => ?_
 refine s1 p9.z (okLenR Tryd.underlying22 s10 qh0) rfl fun a11 p12 s13 => ?_
 refine s1 p12.z (okMv cst) rfl fun a14 p15 s16 => ?_
 refine rN (thenN ?_)
 refine wp_block ?_
 obtain ⟨o19, ho20, h⟩ := Option.bind_eq_some_iff.1 h
 have s23 := p15.o (p12.o (p9.o (p5.o (p2.o s0_1 rfl) rfl) rfl) rfl) rfl
 have s24 := p15.o (p12.o (p9.o (p5.o s3 rfl) rfl) rfl) rfl
 have s25 := p15.o (p12.o (p9.o s6 rfl) rfl) rfl
 have s26 := p15.o (p12.o s10 rfl) rfl
 have s27 := p15.o s13 rfl
 refine loopX (I := (fun k' a' w' => ∃ i17 i18 h21, Z Tryd.f18.ntmps a' ∧ a'.eval (.tmp 1) = .int .i64 x1 ∧ a'.eval (.tmp 4) = .slice none 0 0 ∧ a'.eval (.tmp 5) = h21 ∧ a'.eval (.tmp 8) = h0 ∧ a'.eval (.tmp 9) = .int .i64 (x0.length : Int) ∧ a'.eval (.tmp 10) = .int .i64 i17 ∧ OwnS (KInt .i64) 3 (ownB h21 ++ L) w' h21 i18 ∧ RdS KTEvent (ownB h21 ++ L) w' h0 x0 ∧ Cx [] w (ownB h21 ++ L) w' ∧ (∀ x ∈ ownB h21, x ∉ L) ∧ (∀ x ∈ ownB h21, x ∈ [] ∨ w.heap.size ≤ x) ∧ hist_Order.l0 x0 x1 k' i17 i18 = some o19)) 0 (fun a' w' => ∃ h22, Z Tryd.f18.ntmps a' ∧ a'.eval (.tmp 4) = .slice none 0 0 ∧ a'.eval (.tmp 5) = h22 ∧ OwnS (KInt .i64) 3 (ownB h22 ++ L) w' h22 o19 ∧ Cx [] w (ownB h22 ++ L) w' ∧ (∀ x ∈ ownB h22, x ∉ L) ∧ (∀ x ∈ ownB h22, x ∈ [] ∨ w.heap.size ≤ x)) ⟨0, [], (.slice none 0 0), p15.z, s23, s24, s25, s26, s27, s16, OwnS.nil, (qh0.mono ((Tr.refl _ _).sub (fun i h => (List.mem_append.1 h).elim (fun h => nilO h) (fun h => h)))), (c0.sub (fun i h => (List.mem_append.1 h).elim (fun h => nilO h) (fun h => h))), (fun _ h => nilO h), (fun _ h => nilO h), ho20⟩ ?_ ?_
 ·have oh41 := h; clear h ho20
  rintro k28 a29 w30 ⟨i17, i18, h21, z31, s32, s33, s34, s35, s36, s37, q38, q39, cx40, n42, n43, h⟩
  obtain _ | k := k28
  case zero => cases h
  rw [hist_Order.l0] at h
  refine wp_seq ?_
  refine reg ?_
  refine s1 z31 (okLt s37 s36) rfl fun a44 p45 s46 => ?_
  refine rN (thenN ?_)
  refine wp_seq ?_
  refine cnd s46 (fun hb47 => ?_) (fun hb47 => ?_)
  ·replace h := (ifP hb47).symm.trans h
   refine wp_skip (thenN ?_)
   refine wp_seq ?_
   refine wp_block ?_
   refine wp_seq ?_
   refine reg ?_
   have s48 := p45.o s35 rfl
   have s49 := p45.o s37 rfl
   obtain ⟨y50, hy51, h⟩ := Option.bind_eq_some_iff.1 h
   obtain ⟨b52, o53, cs54, r56, e57, nb58, k55⟩ := q39.at_ hy51
   obtain rfl := r56
   refine s1 p45.z (k55 Tryd.underlying22 Tryd.sizeOf38 s48 s49 _) rfl fun a59 p60 s61 => ?_
   refine s1 p60.z (okLdA ag38 s61 e57 rfl rfl whole) rfl fun a62 p63 s64 => ?_
   refine lS (oAlloc zv38 p63.z rfl fun a65 w66 b67 p68 sp68 m69 g70 e71 => ?_)
   have f73 := cx40.nw e71
   have cx72 := cx40.al g70 m69
   have s74 := p68.o s64 rfl
   refine lS (oStoW (cs := TEvent.C y50) p68.z sp68 s74 m69 Tryd.sizeOf38 rfl (TEvent.C_one _) rfl fun w75 m76 g77 => ?_)
   have cx78 := cx72.st g77 f73
   refine rN (thenN ?_)
   refine wp_seq ?_
   refine reg ?_
   refine s1 p68.z (okFA (o' := 0) fo38_0 sp68 rfl) rfl fun a79 p80 s81 => ?_
   refine s1 p80.z (okLd (j := 0) na3 s81 (m76.cl) rfl rfl) rfl fun a82 p83 s84 => ?_
   refine s1 p83.z (okEq s84 cst) rfl fun a85 p86 s87 => ?_
   refine s1 p86.z (okMv s87) rfl fun a88 p89 s90 => ?_
   refine cutP 6 (fun a' => Pg Tryd.f18.ntmps [18, 19, 20, 21, 22, 23] a88 a' ∧ a'.eval (.tmp 23) = .bool ((y50.kind == 2) && (y50.note.kind == x1))) ?_ ?_
   ·rcases bf (y50.kind == 2) with hb91 | hb91
    ·have s92 := bv s90 hb91
     refine s1k p89.z rfl (yd p89.z rfl rfl s92) rfl fun a93 p94 s95 => ?_
     have s96 := p94.o s92 rfl
     refine s1k p94.z rfl (yd p94.z rfl rfl s96) rfl fun a97 p98 s99 => ?_
     have s100 := p98.o s96 rfl
     refine s1k p98.z rfl (yd p98.z rfl rfl s100) rfl fun a101 p102 s103 => ?_
     have s104 := p102.o s100 rfl
     refine s1k p102.z rfl (yd p102.z rfl rfl s104) rfl fun a105 p106 s107 => ?_
     have s108 := p106.o s104 rfl
     refine s1k p106.z rfl (yd p106.z rfl rfl s108) rfl fun a109 p110 s111 => ?_
     have s112 := p110.o s108 rfl
     refine s1 p110.z (okPickF s112 cst) rfl fun a113 p114 s115 => ?_
     exact rN ⟨rfl, rfl, (((((((Pg.refl p89.z).st p94 rfl).st p98 rfl).st p102 rfl).st p106 rfl).st p110 rfl).st p114 rfl), (andF hb91 s115)⟩
    ·have s116 := bv s90 hb91
     have s117 := p89.o (p86.o (p83.o (p80.o sp68 rfl) rfl) rfl) rfl
     refine s1g p89.z (okFA (o' := 3) fo38_3 s117 rfl) rfl (yd p89.z rfl rfl s116) fun a118 p119 s120 => ?_
     have s121 := p119.o s116 rfl
     refine s1g p119.z (okFA (o' := 3) fo36_0 s120 rfl) rfl (yd p119.z rfl rfl s121) fun a122 p123 s124 => ?_
     have s125 := p123.o s121 rfl
     refine s1g p123.z (okLd (j := 3) na3 s124 (m76.cl) rfl rfl) rfl (yd p123.z rfl rfl s125) fun a126 p127 s128 => ?_
     have s129 := p127.o s125 rfl
     have s130 := p127.o (p123.o (p119.o (p89.o (p86.o (p83.o (p80.o (p68.o (p63.o (p60.o (p45.o s32 rfl) rfl) rfl) rfl) rfl) rfl) rfl) rfl) rfl) rfl) rfl
     refine s1g p127.z (okMv s130) rfl (yd p127.z rfl rfl s129) fun a131 p132 s133 => ?_
     have s134 := p132.o s129 rfl
     have s135 := p132.o s128 rfl
     refine s1g p132.z (okEq s135 s133) rfl (yd p132.z rfl rfl s134) fun a136 p137 s138 => ?_
     have s139 := p137.o s134 rfl
     refine s1 p137.z (okPickT s139 s138) rfl fun a140 p141 s142 => ?_
     exact rN ⟨rfl, rfl, (((((((Pg.refl p89.z).st p119 rfl).st p123 rfl).st p127 rfl).st p132 rfl).st p137 rfl).st p141 rfl), (andT hb91 s142)⟩
   rintro a143 ⟨pg144, s145⟩
   refine rN (thenN ?_)
   have s146 := pg144.o (p89.o (p86.o (p83.o (p80.o (p68.o (p63.o (p60.o s48 rfl) rfl) rfl) rfl) rfl) rfl) rfl) rfl
   have s147 := pg144.o (p89.o (p86.o (p83.o (p80.o (p68.o (p63.o (p60.o s49 rfl) rfl) rfl) rfl) rfl) rfl) rfl) rfl
   have s148 := pg144.o (p89.o (p86.o (p83.o (p80.o (p68.o (p63.o (p60.o s46 rfl) rfl) rfl) rfl) rfl) rfl) rfl) rfl
   have s149 := pg144.o (p89.o (p86.o (p83.o (p80.o (p68.o (p63.o s61 rfl) rfl) rfl) rfl) rfl) rfl) rfl
   have s150 := pg144.o (p89.o (p86.o (p83.o (p80.o s74 rfl) rfl) rfl) rfl) rfl
   have s151 := pg144.o (p89.o (p86.o (p83.o (p80.o sp68 rfl) rfl) rfl) rfl) rfl
   have s152 := pg144.o (p89.o (p86.o (p83.o s81 rfl) rfl) rfl) rfl
   have s153 := pg144.o (p89.o (p86.o s84 rfl) rfl) rfl
   have s154 := pg144.o (p89.o s87 rfl) rfl
   have s155 := pg144.o s90 rfl
   have pg156 : Pg _ [7, 11, 12, 13, 14, 15, 16, 17, 18, 19, 20, 21, 22, 23] _ _ := ((((((((((Pg.refl z31).st p45 rfl).st p60 rfl).st p63 rfl).st p68 rfl).st p80 rfl).st p83 rfl).st p86 rfl).st p89 rfl).tr pg144 rfl)
   refine cnd s145 (fun hb157 => ?_) (fun hb157 => ?_)
   ·replace h := (ifP hb157).symm.trans h
    refine reg ?_
    have s158 := pg156.o s34 rfl
    refine s1 pg156.z (okMv s158) rfl fun a159 p160 s161 => ?_
    have s162 := p160.o s151 rfl
    refine s1 p160.z (okFA (o' := 1) fo38_1 s162 rfl) rfl fun a163 p164 s165 => ?_
    refine s1 p164.z (okLd (j := 1) na3 s165 (m76.cl) rfl rfl) rfl fun a166 p167 s168 => ?_
    have q176 := (q38.t0 (g70.tA (Nat.le_of_eq e71.symm)) g70).t1 (g77.t1 (.head _)) g77 (q38.nb e71)
    refine lS (oBS (K := (KInt .i64)) (L := (b67 :: (ownB h21 ++ L))) (xs := [y50.thread]) (C := [[.int .i64 y50.thread]]) p167.z (pb1 s168) (bs29_1_0 y50.thread) rfl rfl (all2C rfl all2N) rfl rfl fun a169 v170 w171 p172 sp172 q173 g174 f175 => ?_)
    have f177 := frN f175
    have nb178 := nbA hL cx78.g.sz (fun _ h => nilO h) f177
    have sf179 := sfA (S := []) cx78.g.sz (fun _ h => nilO h) f177
    have n180 := m76.no (fun h => nilO h) f177
    have n181 := q176.dj (fun _ _ h => nilO h) f177
    have cx182 := cx78.ap g174 (fun _ h => nilO h) q173
    have s183 := p172.o (p167.o (p164.o s161 rfl) rfl) rfl
    obtain ⟨z184, hz185, h⟩ := Option.bind_eq_some_iff.1 h
    have q186 := q176.t0 (tAp g174 (fun _ h => nilO h) f177) g174
    have m187 := m76.g0 g174
    refine lS (oApp (K := (KInt .i64)) (L := (ownB v170 ++ (b67 :: (ownB h21 ++ L)))) Tryd.underlying29 ti3 rfl p172.z s183 sp172 q186 q173.src hz185 (fun _ h => (List.mem_append_right _ (.tail _ (List.mem_append_left _ h)))) rfl fun a188 v189 w190 p191 sp191 q192 g193 f194 => ?_)
    have nb195 := nbA hL cx182.g.sz n42 f194
    have sf196 := sfA (S := []) cx182.g.sz n43 f194
    have n197 := m187.no (q38.nb e71) f194
    have n198 := q173.dj (djs n181) f194
    have cx199 := cx182.ap g193 n43 q192
    have cx200 := cx199.sub (fun i h => (List.mem_append.1 h).elim (fun h => (List.mem_append_left _ h)) (fun h => (List.mem_append.1 h).elim (fun h => (List.mem_append_right _ (List.mem_append_left _ h))) (fun h => (List.mem_cons.1 h).elim (fun e => e ▸ (List.mem_append_right _ (List.mem_append_right _ (.head _)))) (fun h => (List.mem_append_right _ (List.mem_append_right _ (.tail _ (List.mem_append_right _ h))))))))
    have q201 := q192.sub (fun i h => (List.mem_append.1 h).elim (fun h => (List.mem_append_left _ h)) (fun h => (List.mem_append.1 h).elim (fun h => (List.mem_append_right _ (List.mem_append_left _ h))) (fun h => (List.mem_cons.1 h).elim (fun e => e ▸ (List.mem_append_right _ (List.mem_append_right _ (.head _)))) (fun h => (List.mem_append_right _ (List.mem_append_right _ (.tail _ (List.mem_append_right _ h))))))))
    refine s1 p191.z (okAs sp191) rfl fun a202 p203 s204 => ?_
    refine rN (blkN (thenN ?_))
    refine reg ?_
    have s205 := p203.o (p191.o (p172.o (p167.o (p164.o (p160.o s147 rfl) rfl) rfl) rfl) rfl) rfl
    refine s1 p203.z (okAdd s205 cst) rfl fun a206 p207 s208 => ?_
    refine s1 p207.z (okMv s208) rfl fun a209 p210 s211 => ?_
    have s212 := p210.o (p207.o (p203.o (p191.o (p172.o (p167.o (p164.o (p160.o (pg156.o s32 rfl) rfl) rfl) rfl) rfl) rfl) rfl) rfl) rfl
    have s213 := p210.o (p207.o (p203.o (p191.o (p172.o (p167.o (p164.o (p160.o (pg156.o s33 rfl) rfl) rfl) rfl) rfl) rfl) rfl) rfl) rfl
    have s214 := p210.o (p207.o s204 rfl) rfl
    have s215 := p210.o (p207.o (p203.o (p191.o (p172.o (p167.o (p164.o (p160.o s146 rfl) rfl) rfl) rfl) rfl) rfl) rfl) rfl
    have s216 := p210.o (p207.o (p203.o (p191.o (p172.o (p167.o (p164.o (p160.o (pg156.o s36 rfl) rfl) rfl) rfl) rfl) rfl) rfl) rfl) rfl
    have q217 := q39.mono ((((g70.tA (Nat.le_of_eq e71.symm)).trans (g77.t1 (.head _))).trans (tAp g174 (fun _ h => nilO h) f177)).trans (Tr.sub (tAp g193 (fun _ h => (List.mem_append_right _ (.tail _ (List.mem_append_left _ h)))) f194) (fun i h => (List.mem_append.1 h).elim (fun h => (List.mem_append_left _ h)) (fun h => (List.mem_append.1 h).elim (fun h => (List.mem_append_right _ (List.mem_append_left _ h))) (fun h => (List.mem_cons.1 h).elim (fun e => e ▸ (List.mem_append_right _ (List.mem_append_right _ (.head _)))) (fun h => (List.mem_append_right _ (List.mem_append_right _ (.tail _ (List.mem_append_right _ h))))))))))
    exact rN (thenN ⟨k, Nat.lt_succ_self k, (w64 (i17 + 1)), z184, v189, p210.z, s212, s213, s214, s215, s216, s211, (q201.sub (fun i h => (List.mem_append.1 h).elim (fun h => (List.mem_append_left _ h)) (fun h => (List.mem_append_right _ (List.mem_append_right _ (.tail _ h)))))), (q217.mono ((Tr.refl _ _).sub (fun i h => (List.mem_append.1 h).elim (fun h => (List.mem_append_left _ h)) (fun h => (List.mem_append_right _ (List.mem_append_right _ (.tail _ h))))))), (cx200.sub (fun i h => (List.mem_append.1 h).elim (fun h => (List.mem_append_left _ h)) (fun h => (List.mem_append_right _ (List.mem_append_right _ (.tail _ h)))))), nb195, sf196, h⟩)
   replace h := (ifN hb157).symm.trans h
   refine wp_skip (blkN (thenN ?_))
   refine reg ?_
   refine s1 pg156.z (okAdd s147 cst) rfl fun a218 p219 s220 => ?_
   refine s1 p219.z (okMv s220) rfl fun a221 p222 s223 => ?_
   have s224 := p222.o (p219.o (pg156.o s32 rfl) rfl) rfl
   have s225 := p222.o (p219.o (pg156.o s33 rfl) rfl) rfl
   have s226 := p222.o (p219.o (pg156.o s34 rfl) rfl) rfl
   have s227 := p222.o (p219.o s146 rfl) rfl
   have s228 := p222.o (p219.o (pg156.o s36 rfl) rfl) rfl
   have q229 := (q38.t0 (g70.tA (Nat.le_of_eq e71.symm)) g70).t1 (g77.t1 (.head _)) g77 (q38.nb e71)
   have q230 := q39.mono ((g70.tA (Nat.le_of_eq e71.symm)).trans (g77.t1 (.head _)))
   exact rN (thenN ⟨k, Nat.lt_succ_self k, (w64 (i17 + 1)), i18, h21, p222.z, s224, s225, s226, s227, s228, s223, (q229.sub (fun i h => (.tail _ h))), (q230.mono ((Tr.refl _ _).sub (fun i h => (.tail _ h)))), (cx78.sub (fun i h => (.tail _ h))), n42, n43, h⟩)
  replace h := (ifN hb47).symm.trans h
  obtain rfl := Option.some.inj h
  have s231 := p45.o s33 rfl
  have s232 := p45.o s34 rfl
  exact wp_exit (thenE (thenE (jqE ⟨h21, p45.z, s231, s232, q38, cx40, n42, n43⟩)))
 clear ho20
 rintro a233 w234 ⟨h22, z235, s236, s237, q238, cx239, n240, n241⟩
 refine blkE (thenN ?_)
 refine wp_seq ?_
 refine reg ?_
 refine s1 z235 (okMv s237) rfl fun a242 p243 s244 => ?_
 refine s1 p243.z (okAs s244) rfl fun a245 p246 s247 => ?_
 refine rN (thenN ?_)
 obtain rfl := Option.some.inj h
 exact wp_ret (ret1 p246.z Tryd.results18 (rvT s247) ⟨_, rfl, (q238.rd (fun i h => (List.mem_append_right _ h)) n240), cx239.g⟩)

set_option maxHeartbeats 4000000 in
set_option maxRecDepth 100000 in
theorem c19 (k : Nat) (L : List Nat) (w : World) (hL : ∀ b ∈ L, b < w.heap.size) (x0 : List TEvent) (h0 : Value) (qh0 : RdS KTEvent L w h0 x0) (x1 : Int) (r : Int) (h : hist_Marks k x0 x1 = some r) : Calls Tryd.prog 19 #[h0, .int .i64 x1] w (fun e w' => ∃ v, e = .returned v ∧ v = .int .i64 r ∧ G [] w w') := by
 refine enterF Tryd.func19 rfl rfl fun a0 z0 A => ?_
 have s0_0 := A 0 (h0) rfl
 have s0_1 := A 1 (.int .i64 x1) rfl
 clear A
 have c0 : Cx [] w L w := ⟨G.refl _ _, hL⟩
 unfold hist_Marks at h
 refine wp_seq ?_
 refine reg ?_
 refine s1 z0 (okAs cst) rfl fun a1 p2 s3 => ?_
 refine rN (thenN ?_)
 refine wp_seq ?_
 refine reg ?_
 have s4 := p2.o s0_0 rfl
 refine s1 p2.z (okMv s4) rfl fun a5 p6 s7 => ?_
 have s8 := p6.o (p2.o s0_1 rfl) rfl
 refine s1 p6.z (okMv s8) rfl fun a9 p10 s11 => ?_
 have s12 := p10.o s7 rfl
 obtain ⟨t13, ht14, h⟩ := Option.bind_eq_some_iff.1 h
 refine lS (oCall p10.z Tryd.call18 (ag2 s12 s11) (c18 k L w c0.lt _ _ qh0 _ _ ht14) rfl fun v18 a15 w16 hp19 p17 sp17 => ?_)
 obtain ⟨q20, g21⟩ := hp19
 have cx22 := c0.ca g21
 refine s1 p17.z (okLenR Tryd.underlying29 sp17 q20) rfl fun a23 p24 s25 => ?_
 refine s1 p24.z (okAs s25) rfl fun a26 p27 s28 => ?_
 refine rN (thenN ?_)
 obtain rfl := Option.some.inj h
 exact wp_ret (ret1 p27.z Tryd.results19 (rvT s28) ⟨_, rfl, rfl, cx22.g⟩)

set_option maxHeartbeats 4000000 in
set_option maxRecDepth 100000 in
theorem c13 (k : Nat) (L : List Nat) (w : World) (hL : ∀ b ∈ L, b < w.heap.size) (x0 : Int) (x1 : List TEvent) (h1 : Value) (qh1 : RdS KTEvent L w h1 x1) (r : (List (List TResult))) (h : hist_Results k x0 x1 = some r) : Calls Tryd.prog 13 #[.int .i64 x0, h1] w (fun e w' => ∃ v, e = .returned v ∧ RdS (KSl KTResult) L w' v r ∧ G [] w w') := by
 refine enterF Tryd.func13 rfl rfl fun a0 z0 A => ?_
 have s0_0 := A 0 (.int .i64 x0) rfl
 have s0_1 := A 1 (h1) rfl
 clear A
 have c0 : Cx [] w L w := ⟨G.refl _ _, hL⟩
 unfold hist_Results at h
 refine wp_seq ?_
 refine reg ?_
 refine s1 z0 (okAs cst) rfl fun a1 p2 s3 => ?_
 refine rN (thenN ?_)
 refine wp_seq ?_
 refine wp_seq ?_
 refine reg ?_
 have s4 := p2.o s0_0 rfl
 refine s1 p2.z (okMv s4) rfl fun a5 p6 s7 => ?_
 refine s1 p6.z (okLt s7 cst) rfl fun a8 p9 s10 => ?_
 refine s1 p9.z (okMv s10) rfl fun a11 p12 s13 => ?_
 refine cutP 3 (fun a' => Pg Tryd.f13.ntmps [11, 12, 13] a11 a' ∧ a'.eval (.tmp 13) = .bool ((decide (x0 < 0)) || (decide (8 < x0)))) ?_ ?_
 ·rcases bf (decide (x0 < 0)) with hb14 | hb14
  ·have s15 := bv s13 hb14
   have s16 := p12.o (p9.o (p6.o s4 rfl) rfl) rfl
   refine s1g p12.z (okMv s16) rfl (yd p12.z rfl rfl s15) fun a17 p18 s19 => ?_
   have s20 := p18.o s15 rfl
   refine s1g p18.z (okGt s19 cst) rfl (yd p18.z rfl rfl s20) fun a21 p22 s23 => ?_
   have s24 := p22.o s20 rfl
   refine s1 p22.z (okPickF s24 s23) rfl fun a25 p26 s27 => ?_
   exact rN ⟨rfl, rfl, ((((Pg.refl p12.z).st p18 rfl).st p22 rfl).st p26 rfl), (orF hb14 s27)⟩
  ·have s28 := bv s13 hb14
   refine s1k p12.z rfl (yd p12.z rfl rfl s28) rfl fun a29 p30 s31 => ?_
   have s32 := p30.o s28 rfl
   refine s1k p30.z rfl (yd p30.z rfl rfl s32) rfl fun a33 p34 s35 => ?_
   have s36 := p34.o s32 rfl
   refine s1 p34.z (okPickT s36 cst) rfl fun a37 p38 s39 => ?_
   exact rN ⟨rfl, rfl, ((((Pg.refl p12.z).st p30 rfl).st p34 rfl).st p38 rfl), (orT hb14 s39)⟩
 rintro a40 ⟨pg41, s42⟩
 refine rN (thenN ?_)
 have s43 := pg41.o (p12.o (p9.o (p6.o s4 rfl) rfl) rfl) rfl
 have s44 := pg41.o (p12.o (p9.o (p6.o s3 rfl) rfl) rfl) rfl
 have pg45 : Pg _ [4, 8, 9, 10, 11, 12, 13] _ _ := ((((((Pg.refl z0).st p2 rfl).st p6 rfl).st p9 rfl).st p12 rfl).tr pg41 rfl)
 refine cnd s42 (fun hb46 => ?_) (fun hb46 => ?_)
 ·replace h := (ifP hb46).symm.trans h
  refine wp_seq ?_
  refine reg ?_
  refine s1 pg45.z (okAs cst) rfl fun a47 p48 s49 => ?_
  refine rN (thenN ?_)
  obtain rfl := Option.some.inj h
  exact wp_ret (thenR (ret1 p48.z Tryd.results13 (rvT s49) ⟨_, rfl, RdS.nil, c0.g⟩))
 replace h := (ifN hb46).symm.trans h
 refine wp_skip (thenN ?_)
 refine wp_seq ?_
 refine reg ?_
 refine s1 pg45.z (okMv s43) rfl fun a50 p51 s52 => ?_
 obtain ⟨z53, hz54, h⟩ := Option.bind_eq_some_iff.1 h
 refine lS (oMkO (K := KTResult) (E := 64) (B := w.heap.size) Tryd.underlying24 ti27 rfl zv27 p51.z s52 s52 hz54 c0.g.sz rfl fun a55 v56 w57 p58 sp58 q59 g60 => ?_)
 have cx61 := c0.ca g60
 refine s1 p58.z (okAs sp58) rfl fun a62 p63 s64 => ?_
 refine rN (thenN ?_)
 refine wp_seq ?_
 refine wp_seq ?_
 refine reg ?_
 have s65 := p63.o (p58.o (p51.o (pg45.o s0_1 rfl) rfl) rfl) rfl
 refine s1 p63.z (okMv s65) rfl fun a66 p67 s68 => ?_
 have q69 := qh1.mono g60.t0
 refine s1 p67.z (okLenR Tryd.underlying22 s68 q69) rfl fun a70 p71 s72 => ?_
 refine s1 p71.z (okMv cst) rfl fun a73 p74 s75 => ?_
 refine rN (thenN ?_)
 refine wp_block ?_
 obtain ⟨o78, ho79, h⟩ := Option.bind_eq_some_iff.1 h
 have s80 := p74.o (p71.o (p67.o (p63.o (p58.o (p51.o s43 rfl) rfl) rfl) rfl) rfl) rfl
 have s81 := p74.o (p71.o (p67.o (p63.o (p58.o (p51.o s44 rfl) rfl) rfl) rfl) rfl) rfl
 have s82 := p74.o (p71.o (p67.o s64 rfl) rfl) rfl
 have s83 := p74.o (p71.o s68 rfl) rfl
 have s84 := p74.o s72 rfl
 refine loopX (I := (fun k' a' w' => ∃ i76 i77, Z Tryd.f13.ntmps a' ∧ a'.eval (.tmp 0) = .int .i64 x0 ∧ a'.eval (.tmp 4) = .slice none 0 0 ∧ a'.eval (.tmp 5) = v56 ∧ a'.eval (.tmp 16) = h1 ∧ a'.eval (.tmp 17) = .int .i64 (x1.length : Int) ∧ a'.eval (.tmp 18) = .int .i64 i76 ∧ OO KTResult 64 27 w.heap.size w' v56 i77 ∧ RdS KTEvent L w' h1 x1 ∧ Cx [] w L w' ∧ hist_Results.l0 x0 x1 k' i76 i77 = some o78)) 0 (fun a' w' => Z Tryd.f13.ntmps a' ∧ a'.eval (.tmp 4) = .slice none 0 0 ∧ a'.eval (.tmp 5) = v56 ∧ OO KTResult 64 27 w.heap.size w' v56 o78 ∧ Cx [] w L w') ⟨0, z53, p74.z, s80, s81, s82, s83, s84, s75, q59, q69, cx61, ho79⟩ ?_ ?_
 ·have oh98 := h; clear h ho79
  rintro k85 a86 w87 ⟨i76, i77, z88, s89, s90, s91, s92, s93, s94, q95, q96, cx97, h⟩
  obtain _ | k := k85
  case zero => cases h
  rw [hist_Results.l0] at h
  refine wp_seq ?_
  refine reg ?_
  refine s1 z88 (okLt s94 s93) rfl fun a99 p100 s101 => ?_
  refine rN (thenN ?_)
  refine wp_seq ?_
  refine cnd s101 (fun hb102 => ?_) (fun hb102 => ?_)
  ·replace h := (ifP hb102).symm.trans h
   refine wp_skip (thenN ?_)
   refine wp_seq ?_
   refine wp_block ?_
   refine wp_seq ?_
   refine reg ?_
   have s103 := p100.o s92 rfl
   have s104 := p100.o s94 rfl
   obtain ⟨y105, hy106, h⟩ := Option.bind_eq_some_iff.1 h
   obtain ⟨b107, o108, cs109, r111, e112, nb113, k110⟩ := q96.at_ hy106
   obtain rfl := r111
   refine s1 p100.z (k110 Tryd.underlying22 Tryd.sizeOf38 s103 s104 _) rfl fun a114 p115 s116 => ?_
   refine s1 p115.z (okLdA ag38 s116 e112 rfl rfl whole) rfl fun a117 p118 s119 => ?_
   refine lS (oAlloc zv38 p118.z rfl fun a120 w121 b122 p123 sp123 m124 g125 e126 => ?_)
   have f128 := cx97.nw e126
   have cx127 := cx97.al g125 m124
   have s129 := p123.o s119 rfl
   refine lS (oStoW (cs := TEvent.C y105) p123.z sp123 s129 m124 Tryd.sizeOf38 rfl (TEvent.C_one _) rfl fun w130 m131 g132 => ?_)
   have cx133 := cx127.st g132 f128
   refine rN (thenN ?_)
   refine wp_seq ?_
   refine reg ?_
   refine s1 p123.z (okFA (o' := 0) fo38_0 sp123 rfl) rfl fun a134 p135 s136 => ?_
   refine s1 p135.z (okLd (j := 0) na3 s136 (m131.cl) rfl rfl) rfl fun a137 p138 s139 => ?_
   refine s1 p138.z (okEq s139 cst) rfl fun a140 p141 s142 => ?_
   refine s1 p141.z (okMv s142) rfl fun a143 p144 s145 => ?_
   refine cutP 4 (fun a' => Pg Tryd.f13.ntmps [26, 27, 28, 29] a143 a' ∧ a'.eval (.tmp 29) = .bool ((y105.kind == 3) && (decide (0 ≤ y105.thread)))) ?_ ?_
   ·rcases bf (y105.kind == 3) with hb146 | hb146
    ·have s147 := bv s145 hb146
     refine s1k p144.z rfl (yd p144.z rfl rfl s147) rfl fun a148 p149 s150 => ?_
     have s151 := p149.o s147 rfl
     refine s1k p149.z rfl (yd p149.z rfl rfl s151) rfl fun a152 p153 s154 => ?_
     have s155 := p153.o s151 rfl
     refine s1k p153.z rfl (yd p153.z rfl rfl s155) rfl fun a156 p157 s158 => ?_
     have s159 := p157.o s155 rfl
     refine s1 p157.z (okPickF s159 cst) rfl fun a160 p161 s162 => ?_
     exact rN ⟨rfl, rfl, (((((Pg.refl p144.z).st p149 rfl).st p153 rfl).st p157 rfl).st p161 rfl), (andF hb146 s162)⟩
    ·have s163 := bv s145 hb146
     have s164 := p144.o (p141.o (p138.o (p135.o sp123 rfl) rfl) rfl) rfl
     refine s1g p144.z (okFA (o' := 1) fo38_1 s164 rfl) rfl (yd p144.z rfl rfl s163) fun a165 p166 s167 => ?_
     have s168 := p166.o s163 rfl
     refine s1g p166.z (okLd (j := 1) na3 s167 (m131.cl) rfl rfl) rfl (yd p166.z rfl rfl s168) fun a169 p170 s171 => ?_
     have s172 := p170.o s168 rfl
     refine s1g p170.z (okGe s171 cst) rfl (yd p170.z rfl rfl s172) fun a173 p174 s175 => ?_
     have s176 := p174.o s172 rfl
     refine s1 p174.z (okPickT s176 s175) rfl fun a177 p178 s179 => ?_
     exact rN ⟨rfl, rfl, (((((Pg.refl p144.z).st p166 rfl).st p170 rfl).st p174 rfl).st p178 rfl), (andT hb146 s179)⟩
   rintro a180 ⟨pg181, s182⟩
   refine s1 pg181.z (okMv s182) rfl fun a183 p184 s185 => ?_
   refine cutP 5 (fun a' => Pg Tryd.f13.ntmps [31, 32, 33, 34, 35] a183 a' ∧ a'.eval (.tmp 35) = .bool (((y105.kind == 3) && (decide (0 ≤ y105.thread))) && (decide (y105.thread < x0)))) ?_ ?_
   ·rcases bf ((y105.kind == 3) && (decide (0 ≤ y105.thread))) with hb186 | hb186
    ·have s187 := bv s185 hb186
     refine s1k p184.z rfl (yd p184.z rfl rfl s187) rfl fun a188 p189 s190 => ?_
     have s191 := p189.o s187 rfl
     refine s1k p189.z rfl (yd p189.z rfl rfl s191) rfl fun a192 p193 s194 => ?_
     have s195 := p193.o s191 rfl
     refine s1k p193.z rfl (yd p193.z rfl rfl s195) rfl fun a196 p197 s198 => ?_
     have s199 := p197.o s195 rfl
     refine s1k p197.z rfl (yd p197.z rfl rfl s199) rfl fun a200 p201 s202 => ?_
     have s203 := p201.o s199 rfl
     refine s1 p201.z (okPickF s203 cst) rfl fun a204 p205 s206 => ?_
     exact rN ⟨rfl, rfl, ((((((Pg.refl p184.z).st p189 rfl).st p193 rfl).st p197 rfl).st p201 rfl).st p205 rfl), (andF hb186 s206)⟩
    ·have s207 := bv s185 hb186
     have s208 := p184.o (pg181.o (p144.o (p141.o (p138.o (p135.o sp123 rfl) rfl) rfl) rfl) rfl) rfl
     refine s1g p184.z (okFA (o' := 1) fo38_1 s208 rfl) rfl (yd p184.z rfl rfl s207) fun a209 p210 s211 => ?_
     have s212 := p210.o s207 rfl
     refine s1g p210.z (okLd (j := 1) na3 s211 (m131.cl) rfl rfl) rfl (yd p210.z rfl rfl s212) fun a213 p214 s215 => ?_
     have s216 := p214.o s212 rfl
     have s217 := p214.o (p210.o (p184.o (pg181.o (p144.o (p141.o (p138.o (p135.o (p123.o (p118.o (p115.o (p100.o s89 rfl) rfl) rfl) rfl) rfl) rfl) rfl) rfl) rfl) rfl) rfl) rfl
     refine s1g p214.z (okMv s217) rfl (yd p214.z rfl rfl s216) fun a218 p219 s220 => ?_
     have s221 := p219.o s216 rfl
     have s222 := p219.o s215 rfl
     refine s1g p219.z (okLt s222 s220) rfl (yd p219.z rfl rfl s221) fun a223 p224 s225 => ?_
     have s226 := p224.o s221 rfl
     refine s1 p224.z (okPickT s226 s225) rfl fun a227 p228 s229 => ?_
     exact rN ⟨rfl, rfl, ((((((Pg.refl p184.z).st p210 rfl).st p214 rfl).st p219 rfl).st p224 rfl).st p228 rfl), (andT hb186 s229)⟩
   rintro a230 ⟨pg231, s232⟩
   refine rN (thenN ?_)
   have s233 := pg231.o (p184.o (pg181.o (p144.o (p141.o (p138.o (p135.o (p123.o (p118.o (p115.o s103 rfl) rfl) rfl) rfl) rfl) rfl) rfl) rfl) rfl) rfl
   have s234 := pg231.o (p184.o (pg181.o (p144.o (p141.o (p138.o (p135.o (p123.o (p118.o (p115.o s104 rfl) rfl) rfl) rfl) rfl) rfl) rfl) rfl) rfl) rfl
   have s235 := pg231.o (p184.o (pg181.o (p144.o (p141.o (p138.o (p135.o (p123.o (p118.o (p115.o s101 rfl) rfl) rfl) rfl) rfl) rfl) rfl) rfl) rfl) rfl
   have s236 := pg231.o (p184.o (pg181.o (p144.o (p141.o (p138.o (p135.o (p123.o (p118.o s116 rfl) rfl) rfl) rfl) rfl) rfl) rfl) rfl) rfl
   have s237 := pg231.o (p184.o (pg181.o (p144.o (p141.o (p138.o (p135.o s129 rfl) rfl) rfl) rfl) rfl) rfl) rfl
   have s238 := pg231.o (p184.o (pg181.o (p144.o (p141.o (p138.o (p135.o sp123 rfl) rfl) rfl) rfl) rfl) rfl) rfl
   have s239 := pg231.o (p184.o (pg181.o (p144.o (p141.o (p138.o s136 rfl) rfl) rfl) rfl) rfl) rfl
   have s240 := pg231.o (p184.o (pg181.o (p144.o (p141.o s139 rfl) rfl) rfl) rfl) rfl
   have s241 := pg231.o (p184.o (pg181.o (p144.o s142 rfl) rfl) rfl) rfl
   have s242 := pg231.o (p184.o (pg181.o s145 rfl) rfl) rfl
   have s243 := pg231.o (p184.o s182 rfl) rfl
   have s244 := pg231.o s185 rfl
   have pg245 : Pg _ [7, 19, 20, 21, 22, 23, 24, 25, 26, 27, 28, 29, 30, 31, 32, 33, 34, 35] _ _ := ((((((((((((Pg.refl z88).st p100 rfl).st p115 rfl).st p118 rfl).st p123 rfl).st p135 rfl).st p138 rfl).st p141 rfl).st p144 rfl).tr pg181 rfl).st p184 rfl).tr pg231 rfl)
   refine cnd s232 (fun hb246 => ?_) (fun hb246 => ?_)
   ·replace h := (ifP hb246).symm.trans h
    have s247 := pg245.o s91 rfl
    obtain ⟨y248, hy249, h⟩ := Option.bind_eq_some_iff.1 h
    obtain ⟨bo250, hs251, hv252, ev253, m254, hg255, q256, nb257, hb258, hbv259, clo260⟩ := OO.opn (fun _ _ _ _ _ _ h => h) q95 hy249
    obtain ⟨z261, hz262, h⟩ := Option.bind_eq_some_iff.1 h
    have g263 := g125
    have g264 := g263.tr1 g132 (Nat.le_of_eq e126.symm)
    have p265 := (Nat.le_of_eq e126.symm)
    have n266 : b122 ∉ ownB hv252 := fun hb => Nat.lt_irrefl _ (Nat.lt_of_lt_of_le (q256.lt _ hb) p265)
    have hr268 := ix_lt hy249
    have m269 := m254.g0 g264
    have q270 := q256.t0 g264.t0 g264
    have s271 := pg245.o s89 rfl
    have s272 := pg245.o s90 rfl
    have s273 := pg245.o s93 rfl
    refine regJ (fun a' w' => Z Tryd.f13.ntmps a' ∧ a'.eval (.tmp 0) = .int .i64 x0 ∧ a'.eval (.tmp 4) = .slice none 0 0 ∧ a'.eval (.tmp 5) = v56 ∧ a'.eval (.tmp 16) = h1 ∧ a'.eval (.tmp 17) = .int .i64 (x1.length : Int) ∧ a'.eval (.tmp 18) = .int .i64 i76 ∧ a'.eval (.tmp 19) = .bool (decide (i76 < (x1.length : Int))) ∧ a'.eval (.tmp 20) = ptr b107 o108 ∧ a'.eval (.tmp 21) = .agg (TEvent.C y105).toArray ∧ a'.eval (.tmp 7) = ptr b122 0 ∧ a'.eval (.tmp 22) = ptr b122 0 ∧ a'.eval (.tmp 23) = .int .i64 y105.kind ∧ a'.eval (.tmp 24) = .bool (y105.kind == 3) ∧ a'.eval (.tmp 25) = .bool (y105.kind == 3) ∧ a'.eval (.tmp 29) = .bool ((y105.kind == 3) && (decide (0 ≤ y105.thread))) ∧ a'.eval (.tmp 30) = .bool ((y105.kind == 3) && (decide (0 ≤ y105.thread))) ∧ a'.eval (.tmp 35) = .bool (((y105.kind == 3) && (decide (0 ≤ y105.thread))) && (decide (y105.thread < x0))) ∧ OO KTResult 64 27 w.heap.size w' v56 (i77.set y105.thread.toNat z261) ∧ Cx [] w L w') ?_ ?_
    ·refine regH (n := 17) [(2, fun w' => Cl w' b122 1 [.int .i64 y105.thread]), (5, fun w' => Cl w' b122 1 [.int .i64 y105.thread]), (7, fun w' => Cl w' bo250 y105.thread.toNat [hv252]), (9, fun w' => Cl w' b122 5 [.int .i64 y105.value]), (11, fun w' => Cl w' b122 6 [.int .i64 y105.got])] mixed rfl ?_
     have g274 := G.drew w130
     have cx275 := cx133.ca g274
     have m276 := m269.g0 g274
     have q277 := q270.t0 g274.t0 g274
     refine hTakeW (i := 0) rfl (by kernel_rfl) (by kernel_rfl) (by kernel_rfl) nrm (cond := fun _ => True) (.inl fun _ => trivial) pg245.z (wN rfl) (fun _ _ => okMv s247) trivial rfl fun a278 p279 sp279 => ?_
     have s280 := p279.o s238 rfl
     refine hTakeW (i := 1) rfl (by kernel_rfl) (by kernel_rfl) (by kernel_rfl) nrm (cond := fun _ => True) (.inl fun _ => trivial) p279.z (wN rfl) (fun _ _ => okFA (o' := 1) fo38_1 s280 rfl) trivial rfl fun a281 p282 sp282 => ?_
     have m283 := m131.g0 g274
     refine hTakeW (i := 2) rfl (by kernel_rfl) (by kernel_rfl) (by kernel_rfl) nrm (.inr (.head _)) p282.z (wN rfl) (fun _ h => okLd (j := 0) na3 sp282 h rfl rfl) (m283.clp rfl) rfl fun a284 p285 sp285 => ?_
     have s286 := p285.o (p282.o (p279.o s247 rfl) rfl) rfl
     refine hTakeW (i := 3) rfl (by kernel_rfl) (by kernel_rfl) (by kernel_rfl) nrm (cond := fun _ => True) (.inl fun _ => trivial) p285.z (wN rfl) (fun _ _ => okMv s286) trivial rfl fun a287 p288 sp288 => ?_
     have s289 := p288.o (p285.o (p282.o s280 rfl) rfl) rfl
     refine hTakeW (i := 4) rfl (by kernel_rfl) (by kernel_rfl) (by kernel_rfl) nrm (cond := fun _ => True) (.inl fun _ => trivial) p288.z (wN rfl) (fun _ _ => okFA (o' := 1) fo38_1 s289 rfl) trivial rfl fun a290 p291 sp291 => ?_
     refine hTakeW (i := 5) rfl (by kernel_rfl) (by kernel_rfl) (by kernel_rfl) nrm (.inr (.tail _ (.head _))) p291.z (wN rfl) (fun _ h => okLd (j := 0) na3 sp291 h rfl rfl) (m283.clp rfl) rfl fun a292 p293 sp293 => ?_
     have s294 := p293.o (p291.o sp288 rfl) rfl
     refine hTakeW (i := 6) rfl (by kernel_rfl) (by kernel_rfl) (by kernel_rfl) nrm (cond := fun _ => True) (.inl fun _ => trivial) p293.z (wN rfl) (fun w2 _ => okOIx Tryd.underlying24 Tryd.sizeOf27 s294 ev253 sp293 hr268 w2) trivial rfl fun a295 p296 sp296 => ?_
     refine hTakeW (i := 7) rfl (by kernel_rfl) (by kernel_rfl) (by kernel_rfl) nrm (.inr (.tail _ (.tail _ (.head _)))) p296.z (wN rfl) (fun _ h => okLd (j := 0) na27 sp296 h rfl rfl) (clD hg255 m276.cl) rfl fun a297 p298 sp298 => ?_
     have s299 := p298.o (p296.o (p293.o (p291.o s289 rfl) rfl) rfl) rfl
     refine hTakeW (i := 8) rfl (by kernel_rfl) (by kernel_rfl) (by kernel_rfl) nrm (cond := fun _ => True) (.inl fun _ => trivial) p298.z (wN rfl) (fun _ _ => okFA (o' := 5) fo38_4 s299 rfl) trivial rfl fun a300 p301 sp301 => ?_
     refine hTakeW (i := 9) rfl (by kernel_rfl) (by kernel_rfl) (by kernel_rfl) nrm (.inr (.tail _ (.tail _ (.tail _ (.head _))))) p301.z (wN rfl) (fun _ h => okLd (j := 0) na3 sp301 h rfl rfl) (m283.clp rfl) rfl fun a302 p303 sp303 => ?_
     have s304 := p303.o (p301.o s299 rfl) rfl
     refine hTakeW (i := 10) rfl (by kernel_rfl) (by kernel_rfl) (by kernel_rfl) nrm (cond := fun _ => True) (.inl fun _ => trivial) p303.z (wN rfl) (fun _ _ => okFA (o' := 6) fo38_5 s304 rfl) trivial rfl fun a305 p306 sp306 => ?_
     refine hTakeW (i := 11) rfl (by kernel_rfl) (by kernel_rfl) (by kernel_rfl) nrm (.inr (.tail _ (.tail _ (.tail _ (.tail _ (.head _)))))) p306.z (wN rfl) (fun _ h => okLd (j := 0) na3 sp306 h rfl rfl) (m283.clp rfl) rfl fun a307 p308 sp308 => ?_
     have s309 := p308.o (p306.o sp303 rfl) rfl
     refine hTakeW (i := 12) rfl (by kernel_rfl) (by kernel_rfl) (by kernel_rfl) nrm (cond := fun _ => True) (.inl fun _ => trivial) p308.z (wN rfl) (fun _ _ => okBd (pb2 s309 sp308) (bd64_0_1 y105.value y105.got _)) trivial rfl fun a310 p311 sp311 => ?_
     refine hOne (i := 13) (by kernel_rfl) rfl (oBS (K := KTResult) (L := L) (xs := [(⟨y105.value, y105.got⟩ : TResult)]) (C := [TResult.C (⟨y105.value, y105.got⟩ : TResult)]) p311.z (pb1 sp311) (bs27_1_0 (⟨y105.value, y105.got⟩ : TResult)) rfl rfl (all2C rfl all2N) rfl rfl fun a312 v313 w314 p315 sp315 q316 g317 f318 => ?_)
     have f319 := frN f318
     have nb320 := nbA hL cx275.g.sz (fun _ h => nilO h) f319
     have sf321 := sfA (S := []) cx275.g.sz (fun _ h => nilO h) f319
     have n322 := m283.no (fun h => nilO h) f319
     have cx323 := cx275.ap g317 (fun _ h => nilO h) q316
     refine ⟨⟨.inr fun h => h.g0 g317, .inr fun h => h.g0 g317, .inr fun h => h.g0 g317, .inr fun h => h.g0 g317, .inr fun h => h.g0 g317, trivial⟩, ?_⟩
     have m324 := m276.g0 g317
     have q325 := q277.t0 g317.t0 g317
     have g326 := g274.tr0 g317
     have s327 := p315.o (p311.o (p308.o (p306.o (p303.o (p301.o sp298 rfl) rfl) rfl) rfl) rfl) rfl
     refine hOne (i := 14) (by kernel_rfl) rfl (oApp (K := KTResult) (L := ownB hv252) Tryd.underlying27 ti64 rfl p315.z s327 sp315 (OwnS.flat (fun _ _ _ _ _ _ h => h) q325) (OwnS.flat (L' := ownB hv252) (fun _ _ _ _ _ _ h => h) q316).src hz262 (fun _ h => h) rfl fun a328 v329 w330 p331 sp331 q332 g333 f334 => ?_)
     have cx335 := (cx323.sub (fun i h => List.mem_append_right _ h)).cs g333 (fun x hx => .inr (hbv259 x hx))
     refine ⟨⟨.inr fun h => h.g g333 n266, .inl (by kernel_rfl), .inl (by kernel_rfl), .inl (by kernel_rfl), .inl (by kernel_rfl), trivial⟩, ?_⟩
     have m336 := m324.g g333 nb257
     have n337 := m324.no nb257 f334
     have s338 := p331.o (p315.o (p311.o (p308.o (p306.o (p303.o (p301.o (p298.o (p296.o (p293.o (p291.o (p288.o (p285.o (p282.o sp279 rfl) rfl) rfl) rfl) rfl) rfl) rfl) rfl) rfl) rfl) rfl) rfl) rfl) rfl
     have s339 := p331.o (p315.o (p311.o (p308.o (p306.o (p303.o (p301.o (p298.o (p296.o (p293.o (p291.o (p288.o sp285 rfl) rfl) rfl) rfl) rfl) rfl) rfl) rfl) rfl) rfl) rfl) rfl
     refine hTakeW (i := 15) rfl (by kernel_rfl) (by kernel_rfl) (by kernel_rfl) nrm (cond := fun _ => True) (.inl fun _ => trivial) p331.z (wN rfl) (fun w2 _ => okOIx Tryd.underlying24 Tryd.sizeOf27 s338 ev253 s339 hr268 w2) trivial rfl fun a340 p341 sp341 => ?_
     have s342 := p341.o sp331 rfl
     refine hOne (i := 16) (by kernel_rfl) rfl (oSto (cs := [v329]) (l' := hs251.set y105.thread.toNat v329) p341.z sp341 s342 m336 Tryd.sizeOf27 q332.cells (oneS q332.one) (ble (by have := (List.getElem?_eq_some_iff.1 hg255).1; show _ + 1 ≤ _; omega)) rfl fun w343 m344 g345 => ?_)
     refine ⟨⟨.inl (by kernel_rfl), .inl (by kernel_rfl), .inl (by kernel_rfl), .inl (by kernel_rfl), .inl (by kernel_rfl), trivial⟩, ?_⟩
     have s346 := p341.o (p331.o (p315.o (p311.o (p308.o (p306.o (p303.o (p301.o (p298.o (p296.o (p293.o (p291.o (p288.o (p285.o (p282.o (p279.o s271 rfl) rfl) rfl) rfl) rfl) rfl) rfl) rfl) rfl) rfl) rfl) rfl) rfl) rfl) rfl) rfl
     have s347 := p341.o (p331.o (p315.o (p311.o (p308.o (p306.o (p303.o (p301.o (p298.o (p296.o (p293.o (p291.o (p288.o (p285.o (p282.o (p279.o s272 rfl) rfl) rfl) rfl) rfl) rfl) rfl) rfl) rfl) rfl) rfl) rfl) rfl) rfl) rfl) rfl
     have s348 := p341.o (p331.o (p315.o (p311.o (p308.o (p306.o (p303.o (p301.o (p298.o (p296.o (p293.o (p291.o (p288.o s286 rfl) rfl) rfl) rfl) rfl) rfl) rfl) rfl) rfl) rfl) rfl) rfl) rfl
     have s349 := p341.o (p331.o (p315.o (p311.o (p308.o (p306.o (p303.o (p301.o (p298.o (p296.o (p293.o (p291.o (p288.o (p285.o (p282.o (p279.o s233 rfl) rfl) rfl) rfl) rfl) rfl) rfl) rfl) rfl) rfl) rfl) rfl) rfl) rfl) rfl) rfl
     have s350 := p341.o (p331.o (p315.o (p311.o (p308.o (p306.o (p303.o (p301.o (p298.o (p296.o (p293.o (p291.o (p288.o (p285.o (p282.o (p279.o s273 rfl) rfl) rfl) rfl) rfl) rfl) rfl) rfl) rfl) rfl) rfl) rfl) rfl) rfl) rfl) rfl
     have s351 := p341.o (p331.o (p315.o (p311.o (p308.o (p306.o (p303.o (p301.o (p298.o (p296.o (p293.o (p291.o (p288.o (p285.o (p282.o (p279.o s234 rfl) rfl) rfl) rfl) rfl) rfl) rfl) rfl) rfl) rfl) rfl) rfl) rfl) rfl) rfl) rfl
     have s352 := p341.o (p331.o (p315.o (p311.o (p308.o (p306.o (p303.o (p301.o (p298.o (p296.o (p293.o (p291.o (p288.o (p285.o (p282.o (p279.o s235 rfl) rfl) rfl) rfl) rfl) rfl) rfl) rfl) rfl) rfl) rfl) rfl) rfl) rfl) rfl) rfl
     have s353 := p341.o (p331.o (p315.o (p311.o (p308.o (p306.o (p303.o (p301.o (p298.o (p296.o (p293.o (p291.o (p288.o (p285.o (p282.o (p279.o s236 rfl) rfl) rfl) rfl) rfl) rfl) rfl) rfl) rfl) rfl) rfl) rfl) rfl) rfl) rfl) rfl
     have s354 := p341.o (p331.o (p315.o (p311.o (p308.o (p306.o (p303.o (p301.o (p298.o (p296.o (p293.o (p291.o (p288.o (p285.o (p282.o (p279.o s237 rfl) rfl) rfl) rfl) rfl) rfl) rfl) rfl) rfl) rfl) rfl) rfl) rfl) rfl) rfl) rfl
     have s355 := p341.o (p331.o (p315.o (p311.o (p308.o (p306.o s304 rfl) rfl) rfl) rfl) rfl) rfl
     have s356 := p341.o (p331.o (p315.o (p311.o (p308.o (p306.o (p303.o (p301.o (p298.o (p296.o (p293.o (p291.o (p288.o (p285.o (p282.o (p279.o s239 rfl) rfl) rfl) rfl) rfl) rfl) rfl) rfl) rfl) rfl) rfl) rfl) rfl) rfl) rfl) rfl
     have s357 := p341.o (p331.o (p315.o (p311.o (p308.o (p306.o (p303.o (p301.o (p298.o (p296.o (p293.o (p291.o (p288.o (p285.o (p282.o (p279.o s240 rfl) rfl) rfl) rfl) rfl) rfl) rfl) rfl) rfl) rfl) rfl) rfl) rfl) rfl) rfl) rfl
     have s358 := p341.o (p331.o (p315.o (p311.o (p308.o (p306.o (p303.o (p301.o (p298.o (p296.o (p293.o (p291.o (p288.o (p285.o (p282.o (p279.o s241 rfl) rfl) rfl) rfl) rfl) rfl) rfl) rfl) rfl) rfl) rfl) rfl) rfl) rfl) rfl) rfl
     have s359 := p341.o (p331.o (p315.o (p311.o (p308.o (p306.o (p303.o (p301.o (p298.o (p296.o (p293.o (p291.o (p288.o (p285.o (p282.o (p279.o s242 rfl) rfl) rfl) rfl) rfl) rfl) rfl) rfl) rfl) rfl) rfl) rfl) rfl) rfl) rfl) rfl
     have s360 := p341.o (p331.o (p315.o (p311.o (p308.o (p306.o (p303.o (p301.o (p298.o (p296.o (p293.o (p291.o (p288.o (p285.o (p282.o (p279.o s243 rfl) rfl) rfl) rfl) rfl) rfl) rfl) rfl) rfl) rfl) rfl) rfl) rfl) rfl) rfl) rfl
     have s361 := p341.o (p331.o (p315.o (p311.o (p308.o (p306.o (p303.o (p301.o (p298.o (p296.o (p293.o (p291.o (p288.o (p285.o (p282.o (p279.o s244 rfl) rfl) rfl) rfl) rfl) rfl) rfl) rfl) rfl) rfl) rfl) rfl) rfl) rfl) rfl) rfl
     have s362 := p341.o (p331.o (p315.o (p311.o (p308.o (p306.o (p303.o (p301.o (p298.o (p296.o (p293.o (p291.o (p288.o (p285.o (p282.o (p279.o s232 rfl) rfl) rfl) rfl) rfl) rfl) rfl) rfl) rfl) rfl) rfl) rfl) rfl) rfl) rfl) rfl
     exact hDone (by kernel_rfl) ⟨rfl, p341.z, s346, s347, s348, s349, s350, s351, s352, s353, s354, s355, s356, s357, s358, s359, s360, s361, s362, clo260 g264 (fun x h1 h2 h3 => .inr (G3 g326 g333 g345 x h1 h2 h3)) (Nat.le_trans g326.sz (Nat.le_trans g333.sz g345.sz)) m344 (OwnS.flat (fun _ _ _ _ _ _ h => h) ((OwnS.flat (L' := [bo250]) (fun _ _ _ _ _ _ h => h) q332).t1 (g345.t1 (.head _)) g345 n337)) (fun x hx => (f334 x hx).imp id (Nat.le_trans g326.sz)), (cx335.st g345 hb258).sub (fun i h => (.tail _ h))⟩
    rintro a363 w364 ⟨z365, s366, s367, s368, s369, s370, s371, s372, s373, s374, s375, s376, s377, s378, s379, s380, s381, s382, q383, cx384⟩
    have q385 := qh1.mono cx384.g.t0
    refine blkN (thenN ?_)
    refine reg ?_
    refine s1 z365 (okAdd s371 cst) rfl fun a386 p387 s388 => ?_
    refine s1 p387.z (okMv s388) rfl fun a389 p390 s391 => ?_
    have s392 := p390.o (p387.o s366 rfl) rfl
    have s393 := p390.o (p387.o s367 rfl) rfl
    have s394 := p390.o (p387.o s368 rfl) rfl
    have s395 := p390.o (p387.o s369 rfl) rfl
    have s396 := p390.o (p387.o s370 rfl) rfl
    exact rN (thenN ⟨k, Nat.lt_succ_self k, (w64 (i76 + 1)), (i77.set y105.thread.toNat z261), p390.z, s392, s393, s394, s395, s396, s391, q383, q385, cx384, h⟩)
   replace h := (ifN hb246).symm.trans h
   refine wp_skip (blkN (thenN ?_))
   refine reg ?_
   refine s1 pg245.z (okAdd s234 cst) rfl fun a397 p398 s399 => ?_
   refine s1 p398.z (okMv s399) rfl fun a400 p401 s402 => ?_
   have s403 := p401.o (p398.o (pg245.o s89 rfl) rfl) rfl
   have s404 := p401.o (p398.o (pg245.o s90 rfl) rfl) rfl
   have s405 := p401.o (p398.o (pg245.o s91 rfl) rfl) rfl
   have s406 := p401.o (p398.o s233 rfl) rfl
   have s407 := p401.o (p398.o (pg245.o s93 rfl) rfl) rfl
   have g408 := g125
   have g409 := g408.tr1 g132 (Nat.le_of_eq e126.symm)
   have q410 := q95.g0 g409
   have q411 := q96.mono ((g125.tA (Nat.le_of_eq e126.symm)).trans (g132.t1 (.head _)))
   exact rN (thenN ⟨k, Nat.lt_succ_self k, (w64 (i76 + 1)), i77, p401.z, s403, s404, s405, s406, s407, s402, q410, (q411.mono ((Tr.refl _ _).sub (fun i h => (.tail _ h)))), (cx133.sub (fun i h => (.tail _ h))), h⟩)
  replace h := (ifN hb102).symm.trans h
  obtain rfl := Option.some.inj h
  have s412 := p100.o s90 rfl
  have s413 := p100.o s91 rfl
  exact wp_exit (thenE (thenE (jqE ⟨p100.z, s412, s413, q95, cx97⟩)))
 clear ho79
 rintro a414 w415 ⟨z416, s417, s418, q419, cx420⟩
 refine blkE (thenN ?_)
 refine wp_seq ?_
 refine reg ?_
 refine s1 z416 (okMv s418) rfl fun a421 p422 s423 => ?_
 refine s1 p422.z (okAs s423) rfl fun a424 p425 s426 => ?_
 refine rN (thenN ?_)
 obtain rfl := Option.some.inj h
 exact wp_ret (ret1 p425.z Tryd.results13 (rvT s426) ⟨_, rfl, (q419.rd (fun _ _ _ _ _ _ h => h) hL), cx420.g⟩)

set_option maxHeartbeats 4000000 in
set_option maxRecDepth 100000 in
theorem c12 (k : Nat) (L : List Nat) (w : World) (hL : ∀ b ∈ L, b < w.heap.size) (vT : TabA L w) (r : Bool) (h : tholelaw20_up k = some r) : Calls Tryd.prog 12 #[] w (fun e w' => ∃ v, e = .returned v ∧ v = .bool r ∧ G [] w w') := by
 refine enterF Tryd.func12 rfl rfl fun a0 z0 A => ?_
 clear A
 have c0 : Cx [] w L w := ⟨G.refl _ _, hL⟩
 unfold tholelaw20_up at h
 refine wp_seq ?_
 refine reg ?_
 refine s1 z0 (okAs cst) rfl fun a1 p2 s3 => ?_
 refine rN (thenN ?_)
 refine wp_seq ?_
 refine reg ?_
 refine s1 p2.z (okBd (pb2 cst cst) (bd36_0_1 1 1 _)) rfl fun a4 p5 s6 => ?_
 refine s1 p5.z (okBd (pb4 cst cst cst s6) (bd38_0_1_2_3 2 2 7 (⟨1, 1⟩ : TNote) _)) rfl fun a7 p8 s9 => ?_
 refine lS (oBS (K := KTEvent) (L := L) (xs := [(⟨2, 2, 7, (⟨1, 1⟩ : TNote), 0, 0⟩ : TEvent)]) (C := [TEvent.C (⟨2, 2, 7, (⟨1, 1⟩ : TNote), 0, 0⟩ : TEvent)]) p8.z (pb1 s9) (bs22_1_0 (⟨2, 2, 7, (⟨1, 1⟩ : TNote), 0, 0⟩ : TEvent)) rfl rfl (all2C rfl all2N) rfl rfl fun a10 v11 w12 p13 sp13 q14 g15 f16 => ?_)
 have f17 := frN f16
 have nb18 := nbA hL c0.g.sz (fun _ h => nilO h) f17
 have sf19 := sfA (S := []) c0.g.sz (fun _ h => nilO h) f17
 have cx20 := c0.ap g15 (fun _ h => nilO h) q14
 refine s1 p13.z (okAs sp13) rfl fun a21 p22 s23 => ?_
 refine rN (thenN ?_)
 refine wp_seq ?_
 refine reg ?_
 refine s1 p22.z (okMv s23) rfl fun a24 p25 s26 => ?_
 have q27 := vT.mono (tAp g15 (fun _ h => nilO h) f17)
 obtain ⟨t28, ht29, h⟩ := Option.bind_eq_some_iff.1 h
 refine lS (oCall p25.z Tryd.call20 (ag1 s26) (c20 k L w12 (fun i h => cx20.lt i (List.mem_append_right _ h)) (q27.mono ((Tr.refl _ _).sub (fun i h => (List.mem_append_right _ h)))) _ _ (q14.rd (fun i h => (List.mem_append_right _ h)) (fun b hb => nb18 _ hb)) _ ht29) rfl fun v33 a30 w31 hp34 p32 sp32 => ?_)
 obtain ⟨rfl, g35⟩ := hp34
 have cx36 := cx20.ca g35
 refine s1 p32.z (okStrEq sp32 cst) rfl fun a37 p38 s39 => ?_
 refine s1 p38.z (okMv s39) rfl fun a40 p41 s42 => ?_
 obtain ⟨b43, hb44, h⟩ := Option.bind_eq_some_iff.1 h
 refine cutL 4 (fun a' w' => Pg Tryd.f12.ntmps [9, 10, 11, 12] a40 a' ∧ a'.eval (.tmp 12) = .bool b43 ∧ G [] w31 w') ?_ ?_
 ·rcases bf (t28 == [55, 32, 116, 50, 32, 109, 97, 114, 107, 32, 49, 32, 49, 10]) with hb45 | hb45
  ·have s46 := bv s42 hb45
   replace hb44 := (ifN hb45).symm.trans hb44
   clear h; have h := hb44; clear hb44
   refine s1k p41.z rfl (yd p41.z rfl rfl s46) rfl fun a47 p48 s49 => ?_
   have s50 := p48.o s46 rfl
   refine s1k p48.z rfl (yd p48.z rfl rfl s50) rfl fun a51 p52 s53 => ?_
   have s54 := p52.o s50 rfl
   refine s1k p52.z rfl (yd p52.z rfl rfl s54) rfl fun a55 p56 s57 => ?_
   have s58 := p56.o s54 rfl
   refine s1 p56.z (okPickF s58 cst) rfl fun a59 p60 s61 => ?_
   obtain rfl := Option.some.inj h
   exact rN ⟨rfl, (((((Pg.refl p41.z).st p48 rfl).st p52 rfl).st p56 rfl).st p60 rfl), s61, (G.refl _ _)⟩
  ·have s62 := bv s42 hb45
   replace hb44 := (ifP hb45).symm.trans hb44
   clear h; have h := hb44; clear hb44
   have s63 := p41.o (p38.o (p32.o (p25.o s23 rfl) rfl) rfl) rfl
   refine s1g p41.z (okMv s63) rfl (yd p41.z rfl rfl s62) fun a64 p65 s66 => ?_
   have s67 := p65.o s62 rfl
   have q68 := q14.t0 g35.t0 g35
   obtain ⟨t69, ht70, h⟩ := Option.bind_eq_some_iff.1 h
   refine lG rfl (yd p65.z rfl rfl s67) (oCall p65.z Tryd.call19 (ag2 s66 cst) (c19 k L w31 (fun i h => cx36.lt i (List.mem_append_right _ h)) _ _ (q68.rd (fun i h => (List.mem_append_right _ h)) (fun b hb => nb18 _ hb)) _ _ ht70) rfl fun v74 a71 w72 hp75 p73 sp73 => ?_)
   obtain ⟨rfl, g76⟩ := hp75
   have cx77 := cx36.ca g76
   have s78 := p73.o s67 rfl
   refine s1g p73.z (okEq sp73 cst) rfl (yd p73.z rfl rfl s78) fun a79 p80 s81 => ?_
   have s82 := p80.o s78 rfl
   refine s1 p80.z (okPickT s82 s81) rfl fun a83 p84 s85 => ?_
   obtain rfl := Option.some.inj h
   exact rN ⟨rfl, (((((Pg.refl p41.z).st p65 rfl).st p73 rfl).st p80 rfl).st p84 rfl), s85, g76⟩
 rintro a86 w89 ⟨pg87, s88, g90⟩
 have cx91 := cx36.ca g90
 refine s1 pg87.z (okMv s88) rfl fun a92 p93 s94 => ?_
 obtain ⟨b95, hb96, h⟩ := Option.bind_eq_some_iff.1 h
 refine cutL 5 (fun a' w' => Pg Tryd.f12.ntmps [14, 15, 16, 17, 18] a92 a' ∧ a'.eval (.tmp 18) = .bool b95 ∧ G [] w89 w') ?_ ?_
 ·rcases bf b43 with hb97 | hb97
  ·have s98 := bv s94 hb97
   replace hb96 := (ifN hb97).symm.trans hb96
   clear h; have h := hb96; clear hb96
   refine s1k p93.z rfl (yd p93.z rfl rfl s98) rfl fun a99 p100 s101 => ?_
   have s102 := p100.o s98 rfl
   refine s1k p100.z rfl (yd p100.z rfl rfl s102) rfl fun a103 p104 s105 => ?_
   have s106 := p104.o s102 rfl
   refine s1k p104.z rfl (yd p104.z rfl rfl s106) rfl fun a107 p108 s109 => ?_
   have s110 := p108.o s106 rfl
   refine s1k p108.z rfl (yd p108.z rfl rfl s110) rfl fun a111 p112 s113 => ?_
   have s114 := p112.o s110 rfl
   refine s1 p112.z (okPickF s114 cst) rfl fun a115 p116 s117 => ?_
   obtain rfl := Option.some.inj h
   exact rN ⟨rfl, ((((((Pg.refl p93.z).st p100 rfl).st p104 rfl).st p108 rfl).st p112 rfl).st p116 rfl), s117, (G.refl _ _)⟩
  ·have s118 := bv s94 hb97
   replace hb96 := (ifP hb97).symm.trans hb96
   clear h; have h := hb96; clear hb96
   have s119 := p93.o (pg87.o (p41.o (p38.o (p32.o (p25.o s23 rfl) rfl) rfl) rfl) rfl) rfl
   refine s1g p93.z (okMv s119) rfl (yd p93.z rfl rfl s118) fun a120 p121 s122 => ?_
   have s123 := p121.o s118 rfl
   have q124 := (q14.t0 g35.t0 g35).t0 g90.t0 g90
   have q125 : RdS KTEvent L w89 v11 [(⟨2, 2, 7, (⟨1, 1⟩ : TNote), 0, 0⟩ : TEvent)] := q124.rd (fun i h => (List.mem_append_right _ h)) (fun b hb => nb18 _ hb)
   have cx126 := cx91.sub (fun i h => (List.mem_append_right _ h))
   obtain ⟨t127, ht128, h⟩ := Option.bind_eq_some_iff.1 h
   refine lG rfl (yd p121.z rfl rfl s123) (oCall p121.z Tryd.call13 (ag2 cst s122) (c13 k L w89 cx126.lt _ _ _ q125 _ ht128) rfl fun v132 a129 w130 hp133 p131 sp131 => ?_)
   obtain ⟨q134, g135⟩ := hp133
   have cx136 := cx126.ca g135
   have s137 := p131.o s123 rfl
   refine s1g p131.z (okLenR Tryd.underlying24 sp131 q134) rfl (yd p131.z rfl rfl s137) fun a138 p139 s140 => ?_
   have s141 := p139.o s137 rfl
   refine s1g p139.z (okEq s140 cst) rfl (yd p139.z rfl rfl s141) fun a142 p143 s144 => ?_
   have s145 := p143.o s141 rfl
   refine s1 p143.z (okPickT s145 s144) rfl fun a146 p147 s148 => ?_
   obtain rfl := Option.some.inj h
   exact rN ⟨rfl, ((((((Pg.refl p93.z).st p121 rfl).st p131 rfl).st p139 rfl).st p143 rfl).st p147 rfl), s148, ((G.refl [] w89).tr0 g135)⟩
 rintro a149 w152 ⟨pg150, s151, g153⟩
 have cx154 := cx91.ca g153
 refine s1 pg150.z (okAs s151) rfl fun a155 p156 s157 => ?_
 refine rN (thenN ?_)
 obtain rfl := Option.some.inj h
 exact wp_ret (ret1 p156.z Tryd.results12 (rvT s157) ⟨_, rfl, rfl, cx154.g⟩)

set_option maxHeartbeats 4000000 in
set_option maxRecDepth 100000 in
theorem c5 (k : Nat) (L : List Nat) (w : World) (hL : ∀ b ∈ L, b < w.heap.size) (vT : TabA L w) (x0 : List TEvent) (h0 : Value) (qh0 : RdS KTEvent L w h0 x0) (x1 : Int) (r : Bool) (h : tholelaw20_HistMarks k x0 x1 = some r) : Calls Tryd.prog 5 #[h0, .int .i64 x1] w (fun e w' => ∃ v, e = .returned v ∧ v = .bool r ∧ G [] w w') := by
 refine enterF Tryd.func5 rfl rfl fun a0 z0 A => ?_
 have s0_0 := A 0 (h0) rfl
 have s0_1 := A 1 (.int .i64 x1) rfl
 clear A
 have c0 : Cx [] w L w := ⟨G.refl _ _, hL⟩
 unfold tholelaw20_HistMarks at h
 refine wp_seq ?_
 refine reg ?_
 refine s1 z0 (okAs cst) rfl fun a1 p2 s3 => ?_
 refine rN (thenN ?_)
 refine wp_seq ?_
 refine reg ?_
 obtain ⟨t4, ht5, h⟩ := Option.bind_eq_some_iff.1 h
 refine lS (oCall p2.z Tryd.call12 (ag0 ) (c12 k L w c0.lt vT _ ht5) rfl fun v9 a6 w7 hp10 p8 sp8 => ?_)
 obtain ⟨rfl, g11⟩ := hp10
 have cx12 := c0.ca g11
 refine s1 p8.z (okAs sp8) rfl fun a13 p14 s15 => ?_
 refine rN (thenN ?_)
 refine wp_seq ?_
 refine wp_seq ?_
 refine reg ?_
 have s16 := p14.o (p8.o (p2.o s0_0 rfl) rfl) rfl
 refine s1 p14.z (okMv s16) rfl fun a17 p18 s19 => ?_
 have q20 := qh0.mono g11.t0
 refine s1 p18.z (okLenR Tryd.underlying22 s19 q20) rfl fun a21 p22 s23 => ?_
 refine s1 p22.z (okGt s23 cst) rfl fun a24 p25 s26 => ?_
 refine s1 p25.z (okMv s26) rfl fun a27 p28 s29 => ?_
 obtain ⟨b30, hb31, h⟩ := Option.bind_eq_some_iff.1 h
 refine cutL 9 (fun a' w' => Pg Tryd.f5.ntmps [16, 17, 18, 19, 20, 21, 22, 23, 24] a27 a' ∧ a'.eval (.tmp 24) = .bool b30 ∧ G [] w7 w') ?_ ?_
 ·rcases bf (decide (500 < (x0.length : Int))) with hb32 | hb32
  ·have s33 := bv s29 hb32
   replace hb31 := (ifN hb32).symm.trans hb31
   clear h; have h := hb31; clear hb31
   have s34 := p28.o (p25.o (p22.o (p18.o s16 rfl) rfl) rfl) rfl
   refine s1g p28.z (okMv s34) rfl (yd p28.z rfl rfl s33) fun a35 p36 s37 => ?_
   have s38 := p36.o s33 rfl
   have s39 := p36.o (p28.o (p25.o (p22.o (p18.o (p14.o (p8.o (p2.o s0_1 rfl) rfl) rfl) rfl) rfl) rfl) rfl) rfl
   refine s1g p36.z (okMv s39) rfl (yd p36.z rfl rfl s38) fun a40 p41 s42 => ?_
   have s43 := p41.o s38 rfl
   have s44 := p41.o s37 rfl
   obtain ⟨t45, ht46, h⟩ := Option.bind_eq_some_iff.1 h
   refine lG rfl (yd p41.z rfl rfl s43) (oCall p41.z Tryd.call19 (ag2 s44 s42) (c19 k L w7 cx12.lt _ _ q20 _ _ ht46) rfl fun v50 a47 w48 hp51 p49 sp49 => ?_)
   obtain ⟨rfl, g52⟩ := hp51
   have cx53 := cx12.ca g52
   have s54 := p49.o s43 rfl
   have s55 := p49.o (p41.o (p36.o s34 rfl) rfl) rfl
   refine s1g p49.z (okMv s55) rfl (yd p49.z rfl rfl s54) fun a56 p57 s58 => ?_
   have s59 := p57.o s54 rfl
   have s60 := p57.o (p49.o (p41.o s39 rfl) rfl) rfl
   refine s1g p57.z (okMv s60) rfl (yd p57.z rfl rfl s59) fun a61 p62 s63 => ?_
   have s64 := p62.o s59 rfl
   have s65 := p62.o s58 rfl
   have q66 := q20.mono g52.t0
   obtain ⟨t67, ht68, h⟩ := Option.bind_eq_some_iff.1 h
   refine lG rfl (yd p62.z rfl rfl s64) (oCall p62.z Tryd.call18 (ag2 s65 s63) (c18 k L w48 cx53.lt _ _ q66 _ _ ht68) rfl fun v72 a69 w70 hp73 p71 sp71 => ?_)
   obtain ⟨q74, g75⟩ := hp73
   have cx76 := cx53.ca g75
   have s77 := p71.o s64 rfl
   refine s1g p71.z (okLenR Tryd.underlying29 sp71 q74) rfl (yd p71.z rfl rfl s77) fun a78 p79 s80 => ?_
   have s81 := p79.o s77 rfl
   have s82 := p79.o (p71.o (p62.o (p57.o sp49 rfl) rfl) rfl) rfl
   refine s1g p79.z (okNe s82 s80) rfl (yd p79.z rfl rfl s81) fun a83 p84 s85 => ?_
   have s86 := p84.o s81 rfl
   refine s1 p84.z (okPickF s86 s85) rfl fun a87 p88 s89 => ?_
   obtain rfl := Option.some.inj h
   exact rN ⟨rfl, ((((((((((Pg.refl p28.z).st p36 rfl).st p41 rfl).st p49 rfl).st p57 rfl).st p62 rfl).st p71 rfl).st p79 rfl).st p84 rfl).st p88 rfl), s89, (g52.tr0 g75)⟩
  ·have s90 := bv s29 hb32
   replace hb31 := (ifP hb32).symm.trans hb31
   clear h; have h := hb31; clear hb31
   refine s1k p28.z rfl (yd p28.z rfl rfl s90) rfl fun a91 p92 s93 => ?_
   have s94 := p92.o s90 rfl
   refine s1k p92.z rfl (yd p92.z rfl rfl s94) rfl fun a95 p96 s97 => ?_
   have s98 := p96.o s94 rfl
   refine s1k p96.z rfl (yd p96.z rfl rfl s98) rfl fun a99 p100 s101 => ?_
   have s102 := p100.o s98 rfl
   refine s1k p100.z rfl (yd p100.z rfl rfl s102) rfl fun a103 p104 s105 => ?_
   have s106 := p104.o s102 rfl
   refine s1k p104.z rfl (yd p104.z rfl rfl s106) rfl fun a107 p108 s109 => ?_
   have s110 := p108.o s106 rfl
   refine s1k p108.z rfl (yd p108.z rfl rfl s110) rfl fun a111 p112 s113 => ?_
   have s114 := p112.o s110 rfl
   refine s1k p112.z rfl (yd p112.z rfl rfl s114) rfl fun a115 p116 s117 => ?_
   have s118 := p116.o s114 rfl
   refine s1k p116.z rfl (yd p116.z rfl rfl s118) rfl fun a119 p120 s121 => ?_
   have s122 := p120.o s118 rfl
   refine s1 p120.z (okPickT s122 cst) rfl fun a123 p124 s125 => ?_
   obtain rfl := Option.some.inj h
   exact rN ⟨rfl, ((((((((((Pg.refl p28.z).st p92 rfl).st p96 rfl).st p100 rfl).st p104 rfl).st p108 rfl).st p112 rfl).st p116 rfl).st p120 rfl).st p124 rfl), s125, (G.refl _ _)⟩
 rintro a126 w129 ⟨pg127, s128, g130⟩
 have cx131 := cx12.ca g130
 refine rN (thenN ?_)
 have s132 := pg127.o (p28.o (p25.o (p22.o (p18.o s16 rfl) rfl) rfl) rfl) rfl
 have s133 := pg127.o (p28.o (p25.o (p22.o (p18.o (p14.o (p8.o s3 rfl) rfl) rfl) rfl) rfl) rfl) rfl
 have s134 := pg127.o (p28.o (p25.o (p22.o (p18.o s15 rfl) rfl) rfl) rfl) rfl
 have pg135 : Pg _ [4, 5, 11, 12, 13, 14, 15, 16, 17, 18, 19, 20, 21, 22, 23, 24] _ _ := (((((((((Pg.refl z0).st p2 rfl).st p8 rfl).st p14 rfl).st p18 rfl).st p22 rfl).st p25 rfl).st p28 rfl).tr pg127 rfl)
 refine cnd s128 (fun hb136 => ?_) (fun hb136 => ?_)
 ·replace h := (ifP hb136).symm.trans h
  refine wp_seq ?_
  refine reg ?_
  refine s1 pg135.z (okMv s134) rfl fun a137 p138 s139 => ?_
  refine s1 p138.z (okMv s139) rfl fun a140 p141 s142 => ?_
  refine cutP 4 (fun a' => Pg Tryd.f5.ntmps [27, 28, 29, 30] a140 a' ∧ a'.eval (.tmp 30) = .bool (t4 && (decide (500 < (x0.length : Int))))) ?_ ?_
  ·rcases bf t4 with hb143 | hb143
   ·have s144 := bv s142 hb143
    refine s1k p141.z rfl (yd p141.z rfl rfl s144) rfl fun a145 p146 s147 => ?_
    have s148 := p146.o s144 rfl
    refine s1k p146.z rfl (yd p146.z rfl rfl s148) rfl fun a149 p150 s151 => ?_
    have s152 := p150.o s148 rfl
    refine s1k p150.z rfl (yd p150.z rfl rfl s152) rfl fun a153 p154 s155 => ?_
    have s156 := p154.o s152 rfl
    refine s1 p154.z (okPickF s156 cst) rfl fun a157 p158 s159 => ?_
    exact rN ⟨rfl, rfl, (((((Pg.refl p141.z).st p146 rfl).st p150 rfl).st p154 rfl).st p158 rfl), (andF hb143 s159)⟩
   ·have s160 := bv s142 hb143
    have s161 := p141.o (p138.o s132 rfl) rfl
    refine s1g p141.z (okMv s161) rfl (yd p141.z rfl rfl s160) fun a162 p163 s164 => ?_
    have s165 := p163.o s160 rfl
    have q166 := q20.mono g130.t0
    refine s1g p163.z (okLenR Tryd.underlying22 s164 q166) rfl (yd p163.z rfl rfl s165) fun a167 p168 s169 => ?_
    have s170 := p168.o s165 rfl
    refine s1g p168.z (okGt s169 cst) rfl (yd p168.z rfl rfl s170) fun a171 p172 s173 => ?_
    have s174 := p172.o s170 rfl
    refine s1 p172.z (okPickT s174 s173) rfl fun a175 p176 s177 => ?_
    exact rN ⟨rfl, rfl, (((((Pg.refl p141.z).st p163 rfl).st p168 rfl).st p172 rfl).st p176 rfl), (andT hb143 s177)⟩
  rintro a178 ⟨pg179, s180⟩
  refine s1 pg179.z (okAs s180) rfl fun a181 p182 s183 => ?_
  refine rN (thenN ?_)
  obtain rfl := Option.some.inj h
  exact wp_ret (thenR (ret1 p182.z Tryd.results5 (rvT s183) ⟨_, rfl, rfl, cx131.g⟩))
 replace h := (ifN hb136).symm.trans h
 refine wp_skip (thenN ?_)
 refine wp_seq ?_
 refine reg ?_
 refine s1 pg135.z (okAs cst) rfl fun a184 p185 s186 => ?_
 refine rN (thenN ?_)
 refine wp_seq ?_
 refine reg ?_
 refine s1 p185.z (okAs cst) rfl fun a187 p188 s189 => ?_
 refine rN (thenN ?_)
 refine wp_seq ?_
 refine wp_seq ?_
 refine reg ?_
 refine s1 p188.z (okAs cst) rfl fun a190 p191 s192 => ?_
 refine rN (thenN ?_)
 refine wp_block ?_
 obtain ⟨o196, ho197, h⟩ := Option.bind_eq_some_iff.1 h
 have s198 := p191.o (p188.o (p185.o s132 rfl) rfl) rfl
 have s199 := p191.o (p188.o (p185.o s133 rfl) rfl) rfl
 have s200 := p191.o (p188.o (p185.o s134 rfl) rfl) rfl
 have s201 := p191.o (p188.o s186 rfl) rfl
 have s202 := p191.o s189 rfl
 have q203 := q20.mono g130.t0
 have q204 := vT.mono (g11.t0.trans g130.t0)
 refine loopX (I := (fun k' a' w' => ∃ i193 i194 i195, Z Tryd.f5.ntmps a' ∧ a'.eval (.tmp 0) = h0 ∧ a'.eval (.tmp 4) = .bool false ∧ a'.eval (.tmp 5) = .bool t4 ∧ a'.eval (.tmp 6) = .int .i64 i193 ∧ a'.eval (.tmp 7) = .int .i64 i194 ∧ a'.eval (.tmp 8) = .int .i64 i195 ∧ RdS KTEvent L w' h0 x0 ∧ TabA L w' ∧ Cx [] w L w' ∧ tholelaw20_HistMarks.l0 x0 k' i193 i194 i195 = some o196)) 0 (fun a' w' => Z Tryd.f5.ntmps a' ∧ a'.eval (.tmp 4) = .bool false ∧ a'.eval (.tmp 5) = .bool t4 ∧ a'.eval (.tmp 6) = .int .i64 o196.1 ∧ a'.eval (.tmp 7) = .int .i64 o196.2 ∧ TabA L w' ∧ Cx [] w L w') ⟨0, 0, 0, p191.z, s198, s199, s200, s201, s202, s192, q203, q204, cx131, ho197⟩ ?_ ?_
 ·have oh218 := h; clear h ho197
  rintro k205 a206 w207 ⟨i193, i194, i195, z208, s209, s210, s211, s212, s213, s214, q215, q216, cx217, h⟩
  obtain _ | k := k205
  case zero => cases h
  rw [tholelaw20_HistMarks.l0] at h
  refine wp_seq ?_
  refine wp_seq ?_
  refine reg ?_
  refine s1 z208 (okMv s214) rfl fun a219 p220 s221 => ?_
  have s222 := p220.o s209 rfl
  refine s1 p220.z (okMv s222) rfl fun a223 p224 s225 => ?_
  refine s1 p224.z (okLenR Tryd.underlying22 s225 q215) rfl fun a226 p227 s228 => ?_
  have s229 := p227.o (p224.o s221 rfl) rfl
  refine s1 p227.z (okLt s229 s228) rfl fun a230 p231 s232 => ?_
  refine rN (thenN ?_)
  have s233 := p231.o (p227.o (p224.o s222 rfl) rfl) rfl
  have s234 := p231.o s229 rfl
  have s235 := p231.o (p227.o s225 rfl) rfl
  have s236 := p231.o s228 rfl
  have pg237 : Pg _ [31, 32, 33, 34] _ _ := (((((Pg.refl z208).st p220 rfl).st p224 rfl).st p227 rfl).st p231 rfl)
  refine cnd s232 (fun hb238 => ?_) (fun hb238 => ?_)
  ·replace h := (ifP hb238).symm.trans h
   refine wp_skip (thenN ?_)
   refine wp_seq ?_
   refine wp_block ?_
   refine wp_seq ?_
   refine wp_seq ?_
   refine reg ?_
   refine s1 pg237.z (okMv s233) rfl fun a239 p240 s241 => ?_
   have s242 := p240.o (pg237.o s214 rfl) rfl
   refine s1 p240.z (okMv s242) rfl fun a243 p244 s245 => ?_
   have s246 := p244.o s241 rfl
   obtain ⟨y247, hy248, h⟩ := Option.bind_eq_some_iff.1 h
   obtain ⟨b249, o250, cs251, r253, e254, nb255, k252⟩ := q215.at_ hy248
   obtain rfl := r253
   refine s1 p244.z (k252 Tryd.underlying22 Tryd.sizeOf38 s246 s245 _) rfl fun a256 p257 s258 => ?_
   refine s1 p257.z (okFA (o' := o250) fo38_0 s258 rfl) rfl fun a259 p260 s261 => ?_
   refine s1 p260.z (okLd (j := 0) na3 s261 e254 rfl rfl) rfl fun a262 p263 s264 => ?_
   refine s1 p263.z (okNe s264 cst) rfl fun a265 p266 s267 => ?_
   refine rN (thenN ?_)
   have s268 := p266.o (p263.o (p260.o (p257.o (p244.o s242 rfl) rfl) rfl) rfl) rfl
   have s269 := p266.o (p263.o (p260.o (p257.o s246 rfl) rfl) rfl) rfl
   have s270 := p266.o (p263.o (p260.o (p257.o s245 rfl) rfl) rfl) rfl
   have s271 := p266.o (p263.o (p260.o s258 rfl) rfl) rfl
   have s272 := p266.o (p263.o s261 rfl) rfl
   have s273 := p266.o s264 rfl
   have pg274 : Pg _ [37, 38, 39, 40, 41, 42] _ _ := (((((((Pg.refl pg237.z).st p240 rfl).st p244 rfl).st p257 rfl).st p260 rfl).st p263 rfl).st p266 rfl)
   refine cnd s267 (fun hb275 => ?_) (fun hb275 => ?_)
   ·replace h := (ifP hb275).symm.trans h
    refine wp_exit (thenE (blkE (thenN ?_)))
    refine reg ?_
    refine s1 pg274.z (okMv s268) rfl fun a276 p277 s278 => ?_
    refine s1 p277.z (okAdd s278 cst) rfl fun a279 p280 s281 => ?_
    refine s1 p280.z (okAs s281) rfl fun a282 p283 s284 => ?_
    have s285 := p283.o (p280.o (p277.o (pg274.o s233 rfl) rfl) rfl) rfl
    have s286 := p283.o (p280.o (p277.o (pg274.o (pg237.o s210 rfl) rfl) rfl) rfl) rfl
    have s287 := p283.o (p280.o (p277.o (pg274.o (pg237.o s211 rfl) rfl) rfl) rfl) rfl
    have s288 := p283.o (p280.o (p277.o (pg274.o (pg237.o s212 rfl) rfl) rfl) rfl) rfl
    have s289 := p283.o (p280.o (p277.o (pg274.o (pg237.o s213 rfl) rfl) rfl) rfl) rfl
    exact rN (thenN ⟨k, Nat.lt_succ_self k, i193, i194, (w64 (i195 + 1)), p283.z, s285, s286, s287, s288, s289, s284, q215, q216, cx217, h⟩)
   replace h := (ifN hb275).symm.trans h
   refine wp_skip (thenN ?_)
   refine wp_seq ?_
   refine reg ?_
   have s290 := pg274.o (pg237.o s212 rfl) rfl
   refine s1 pg274.z (okMv s290) rfl fun a291 p292 s293 => ?_
   refine s1 p292.z (okAdd s293 cst) rfl fun a294 p295 s296 => ?_
   refine s1 p295.z (okAs s296) rfl fun a297 p298 s299 => ?_
   refine rN (thenN ?_)
   refine wp_seq ?_
   refine reg ?_
   refine s1 p298.z (okAs cst) rfl fun a300 p301 s302 => ?_
   refine rN (thenN ?_)
   refine wp_seq ?_
   refine wp_seq ?_
   refine reg ?_
   refine s1 p301.z (okAs cst) rfl fun a303 p304 s305 => ?_
   refine rN (thenN ?_)
   refine wp_block ?_
   obtain ⟨o308, ho309, h⟩ := Option.bind_eq_some_iff.1 h
   have s310 := p304.o (p301.o (p298.o (p295.o (p292.o (pg274.o s233 rfl) rfl) rfl) rfl) rfl) rfl
   have s311 := p304.o (p301.o (p298.o (p295.o (p292.o (pg274.o (pg237.o s210 rfl) rfl) rfl) rfl) rfl) rfl) rfl
   have s312 := p304.o (p301.o (p298.o (p295.o (p292.o (pg274.o (pg237.o s211 rfl) rfl) rfl) rfl) rfl) rfl) rfl
   have s313 := p304.o (p301.o s299 rfl) rfl
   have s314 := p304.o (p301.o (p298.o (p295.o (p292.o (pg274.o (pg237.o s213 rfl) rfl) rfl) rfl) rfl) rfl) rfl
   have s315 := p304.o (p301.o (p298.o (p295.o (p292.o s268 rfl) rfl) rfl) rfl) rfl
   have s316 := p304.o (p301.o (p298.o (p295.o (p292.o (pg274.o s234 rfl) rfl) rfl) rfl) rfl) rfl
   have s317 := p304.o (p301.o (p298.o (p295.o (p292.o (pg274.o s235 rfl) rfl) rfl) rfl) rfl) rfl
   have s318 := p304.o (p301.o (p298.o (p295.o (p292.o (pg274.o s236 rfl) rfl) rfl) rfl) rfl) rfl
   have s319 := p304.o (p301.o (p298.o (p295.o (p292.o (pg274.o s232 rfl) rfl) rfl) rfl) rfl) rfl
   have s320 := p304.o (p301.o (p298.o (p295.o (p292.o s269 rfl) rfl) rfl) rfl) rfl
   have s321 := p304.o (p301.o (p298.o (p295.o (p292.o s270 rfl) rfl) rfl) rfl) rfl
   have s322 := p304.o (p301.o (p298.o (p295.o (p292.o s271 rfl) rfl) rfl) rfl) rfl
   have s323 := p304.o (p301.o (p298.o (p295.o (p292.o s272 rfl) rfl) rfl) rfl) rfl
   have s324 := p304.o (p301.o (p298.o (p295.o (p292.o s273 rfl) rfl) rfl) rfl) rfl
   have s325 := p304.o (p301.o (p298.o (p295.o (p292.o s267 rfl) rfl) rfl) rfl) rfl
   have s326 := p304.o (p301.o (p298.o (p295.o s293 rfl) rfl) rfl) rfl
   have s327 := p304.o (p301.o (p298.o s296 rfl) rfl) rfl
   have s328 := p304.o s302 rfl
   refine loopX (I := (fun k' a' w' => ∃ i306 i307, Z Tryd.f5.ntmps a' ∧ a'.eval (.tmp 0) = h0 ∧ a'.eval (.tmp 4) = .bool false ∧ a'.eval (.tmp 5) = .bool t4 ∧ a'.eval (.tmp 6) = .int .i64 (w64 (i193 + 1)) ∧ a'.eval (.tmp 7) = .int .i64 i194 ∧ a'.eval (.tmp 8) = .int .i64 i195 ∧ a'.eval (.tmp 31) = .int .i64 i195 ∧ a'.eval (.tmp 32) = h0 ∧ a'.eval (.tmp 33) = .int .i64 (x0.length : Int) ∧ a'.eval (.tmp 34) = .bool (decide (i195 < (x0.length : Int))) ∧ a'.eval (.tmp 37) = h0 ∧ a'.eval (.tmp 38) = .int .i64 i195 ∧ a'.eval (.tmp 39) = ptr b249 o250 ∧ a'.eval (.tmp 40) = ptr b249 o250 ∧ a'.eval (.tmp 41) = .int .i64 y247.kind ∧ a'.eval (.tmp 42) = .bool (y247.kind != 2) ∧ a'.eval (.tmp 43) = .int .i64 i193 ∧ a'.eval (.tmp 44) = .int .i64 (w64 (i193 + 1)) ∧ a'.eval (.tmp 9) = .bool i307 ∧ a'.eval (.tmp 10) = .int .i64 i306 ∧ RdS KTEvent L w' h0 x0 ∧ TabA L w' ∧ Cx [] w L w' ∧ tholelaw20_HistMarks.l1 x0 i195 k' i306 i307 = some o308)) 2 (fun a' w' => Z Tryd.f5.ntmps a' ∧ a'.eval (.tmp 0) = h0 ∧ a'.eval (.tmp 4) = .bool false ∧ a'.eval (.tmp 5) = .bool t4 ∧ a'.eval (.tmp 6) = .int .i64 (w64 (i193 + 1)) ∧ a'.eval (.tmp 7) = .int .i64 i194 ∧ a'.eval (.tmp 8) = .int .i64 i195 ∧ a'.eval (.tmp 31) = .int .i64 i195 ∧ a'.eval (.tmp 32) = h0 ∧ a'.eval (.tmp 33) = .int .i64 (x0.length : Int) ∧ a'.eval (.tmp 34) = .bool (decide (i195 < (x0.length : Int))) ∧ a'.eval (.tmp 37) = h0 ∧ a'.eval (.tmp 38) = .int .i64 i195 ∧ a'.eval (.tmp 39) = ptr b249 o250 ∧ a'.eval (.tmp 40) = ptr b249 o250 ∧ a'.eval (.tmp 41) = .int .i64 y247.kind ∧ a'.eval (.tmp 42) = .bool (y247.kind != 2) ∧ a'.eval (.tmp 43) = .int .i64 i193 ∧ a'.eval (.tmp 44) = .int .i64 (w64 (i193 + 1)) ∧ a'.eval (.tmp 9) = .bool o308.2 ∧ a'.eval (.tmp 10) = .int .i64 o308.1 ∧ RdS KTEvent L w' h0 x0 ∧ TabA L w' ∧ Cx [] w L w') ⟨0, true, p304.z, s310, s311, s312, s313, s314, s315, s316, s317, s318, s319, s320, s321, s322, s323, s324, s325, s326, s327, s328, s305, q215, q216, cx217, ho309⟩ ?_ ?_
   ·have oh356 := h; clear h ho309
    rintro k329 a330 w331 ⟨i306, i307, z332, s333, s334, s335, s336, s337, s338, s339, s340, s341, s342, s343, s344, s345, s346, s347, s348, s349, s350, s351, s352, q353, q354, cx355, h⟩
    obtain _ | k := k329
    case zero => cases h
    rw [tholelaw20_HistMarks.l1] at h
    refine wp_seq ?_
    refine wp_seq ?_
    refine reg ?_
    refine s1 z332 (okMv s352) rfl fun a357 p358 s359 => ?_
    have s360 := p358.o s338 rfl
    refine s1 p358.z (okMv s360) rfl fun a361 p362 s363 => ?_
    have s364 := p362.o s359 rfl
    refine s1 p362.z (okLt s364 s363) rfl fun a365 p366 s367 => ?_
    refine rN (thenN ?_)
    have s368 := p366.o (p362.o s360 rfl) rfl
    have s369 := p366.o s364 rfl
    have s370 := p366.o s363 rfl
    have pg371 : Pg _ [45, 46, 47] _ _ := ((((Pg.refl z332).st p358 rfl).st p362 rfl).st p366 rfl)
    refine cnd s367 (fun hb372 => ?_) (fun hb372 => ?_)
    ·replace h := (ifP hb372).symm.trans h
     refine wp_skip (thenN ?_)
     refine wp_seq ?_
     refine wp_block ?_
     refine regS mixed (by kernel_rfl) ?_
     have g373 := G.drew w331
     have cx374 := cx355.ca g373
     have s375 := pg371.o s351 rfl
     refine t1 pg371.z (okMv s375) rfl fun a376 p377 s378 => ?_
     refine t1 p377.z (okMv s378) rfl fun a379 p380 s381 => ?_
     obtain ⟨b382, hb383, h⟩ := Option.bind_eq_some_iff.1 h
     refine cutT 22 (fun a' => Pg Tryd.f5.ntmps [52, 53, 54, 55, 56, 57, 58, 59, 60, 61, 62, 63, 64, 65, 66, 67, 68, 69, 70, 71, 72, 73] a379 a' ∧ a'.eval (.tmp 73) = .bool b382) ?_ ?_
     ·rcases bf i307 with hb384 | hb384
      ·have s385 := bv s381 hb384
       replace hb383 := (ifN hb384).symm.trans hb383
       clear h; have h := hb383; clear hb383
       refine t1k p380.z rfl (yd p380.z rfl rfl s385) rfl fun a386 p387 s388 => ?_
       have s389 := p387.o s385 rfl
       refine t1k p387.z rfl (yd p387.z rfl rfl s389) rfl fun a390 p391 s392 => ?_
       have s393 := p391.o s389 rfl
       refine t1k p391.z rfl (yd p391.z rfl rfl s393) rfl fun a394 p395 s396 => ?_
       have s397 := p395.o s393 rfl
       refine t1k p395.z rfl (yd p395.z rfl rfl s397) rfl fun a398 p399 s400 => ?_
       have s401 := p399.o s397 rfl
       refine t1k p399.z rfl (yd p399.z rfl rfl s401) rfl fun a402 p403 s404 => ?_
       have s405 := p403.o s401 rfl
       refine t1k p403.z rfl (yd p403.z rfl rfl s405) rfl fun a406 p407 s408 => ?_
       have s409 := p407.o s405 rfl
       refine t1k p407.z rfl (yd p407.z rfl rfl s409) rfl fun a410 p411 s412 => ?_
       refine t1k p411.z rfl (ydU p411.z rfl rfl s412) rfl fun a413 p414 s415 => ?_
       have s416 := p414.o s412 rfl
       refine t1k p414.z rfl (ydU p414.z rfl rfl s416) rfl fun a417 p418 s419 => ?_
       have s420 := p418.o s416 rfl
       refine t1k p418.z rfl (ydU p418.z rfl rfl s420) rfl fun a421 p422 s423 => ?_
       have s424 := p422.o s420 rfl
       refine t1k p422.z rfl (ydU p422.z rfl rfl s424) rfl fun a425 p426 s427 => ?_
       have s428 := p426.o s424 rfl
       refine t1k p426.z rfl (ydU p426.z rfl rfl s428) rfl fun a429 p430 s431 => ?_
       have s432 := p430.o s428 rfl
       refine t1k p430.z rfl (ydU p430.z rfl rfl s432) rfl fun a433 p434 s435 => ?_
       have s436 := p434.o s432 rfl
       refine t1k p434.z rfl (ydU p434.z rfl rfl s436) rfl fun a437 p438 s439 => ?_
       have s440 := p438.o s436 rfl
       refine t1k p438.z rfl (ydU p438.z rfl rfl s440) rfl fun a441 p442 s443 => ?_
       have s444 := p442.o s440 rfl
       refine t1k p442.z rfl (ydU p442.z rfl rfl s444) rfl fun a445 p446 s447 => ?_
       have s448 := p446.o s444 rfl
       refine t1k p446.z rfl (ydU p446.z rfl rfl s448) rfl fun a449 p450 s451 => ?_
       have s452 := p450.o s448 rfl
       refine t1k p450.z rfl (ydU p450.z rfl rfl s452) rfl fun a453 p454 s455 => ?_
       have s456 := p454.o s452 rfl
       refine t1k p454.z rfl (ydU p454.z rfl rfl s456) rfl fun a457 p458 s459 => ?_
       have s460 := p458.o s456 rfl
       refine t1k p458.z rfl (ydU p458.z rfl rfl s460) rfl fun a461 p462 s463 => ?_
       have s464 := p462.o (p458.o (p454.o (p450.o (p446.o (p442.o (p438.o (p434.o (p430.o (p426.o (p422.o (p418.o (p414.o (p411.o s409 rfl) rfl) rfl) rfl) rfl) rfl) rfl) rfl) rfl) rfl) rfl) rfl) rfl) rfl
       refine t1k p462.z rfl (yd p462.z rfl rfl s464) rfl fun a465 p466 s467 => ?_
       have s468 := p466.o s464 rfl
       refine t1 p466.z (okPickF s468 cst) rfl fun a469 p470 s471 => ?_
       obtain rfl := Option.some.inj h
       exact tN ⟨(((((((((((((((((((((((Pg.refl p380.z).st p387 rfl).st p391 rfl).st p395 rfl).st p399 rfl).st p403 rfl).st p407 rfl).st p411 rfl).st p414 rfl).st p418 rfl).st p422 rfl).st p426 rfl).st p430 rfl).st p434 rfl).st p438 rfl).st p442 rfl).st p446 rfl).st p450 rfl).st p454 rfl).st p458 rfl).st p462 rfl).st p466 rfl).st p470 rfl), s471⟩
      ·have s472 := bv s381 hb384
       replace hb383 := (ifP hb384).symm.trans hb383
       clear h; have h := hb383; clear hb383
       have s473 := p380.o (p377.o (pg371.o s333 rfl) rfl) rfl
       refine t1g p380.z (okMv s473) rfl (yd p380.z rfl rfl s472) fun a474 p475 s476 => ?_
       have s477 := p475.o s472 rfl
       have s478 := p475.o (p380.o (p377.o (pg371.o s352 rfl) rfl) rfl) rfl
       refine t1g p475.z (okMv s478) rfl (yd p475.z rfl rfl s477) fun a479 p480 s481 => ?_
       have s482 := p480.o s477 rfl
       have s483 := p480.o s476 rfl
       have q484 := q353.mono g373.t0
       obtain ⟨y485, hy486, h⟩ := Option.bind_eq_some_iff.1 h
       obtain ⟨b487, o488, cs489, r491, e492, nb493, k490⟩ := q484.at_ hy486
       obtain rfl := r491
       refine t1g p480.z (k490 Tryd.underlying22 Tryd.sizeOf38 s483 s481 _) rfl (yd p480.z rfl rfl s482) fun a494 p495 s496 => ?_
       have s497 := p495.o s482 rfl
       refine t1g p495.z (okFA (o' := o488) fo38_0 s496 rfl) rfl (yd p495.z rfl rfl s497) fun a498 p499 s500 => ?_
       have s501 := p499.o s497 rfl
       refine t1g p499.z (okLd (j := 0) na3 s500 e492 rfl rfl) rfl (yd p499.z rfl rfl s501) fun a502 p503 s504 => ?_
       have s505 := p503.o s501 rfl
       refine t1g p503.z (okNe s504 cst) rfl (yd p503.z rfl rfl s505) fun a506 p507 s508 => ?_
       have s509 := p507.o s505 rfl
       refine t1g p507.z (okMv s508) rfl (yd p507.z rfl rfl s509) fun a510 p511 s512 => ?_
       obtain ⟨b513, hb514, h⟩ := Option.bind_eq_some_iff.1 h
       refine cutT 14 (fun a' => Pg Tryd.f5.ntmps [59, 60, 61, 62, 63, 64, 65, 66, 67, 68, 69, 70, 71, 72] a510 a' ∧ a'.eval (.tmp 72) = .bool b513) ?_ ?_
       ·rcases bf (y485.kind != 2) with hb515 | hb515
        ·have s516 := bv s512 hb515
         replace hb514 := (ifN hb515).symm.trans hb514
         clear h; have h := hb514; clear hb514
         have s517 := p511.o (p507.o (p503.o (p499.o (p495.o (p480.o (p475.o s473 rfl) rfl) rfl) rfl) rfl) rfl) rfl
         refine t1g p511.z (okMv s517) rfl (yd p511.z rfl rfl s516) fun a518 p519 s520 => ?_
         have s521 := p519.o s516 rfl
         have s522 := p519.o (p511.o (p507.o (p503.o (p499.o (p495.o (p480.o s478 rfl) rfl) rfl) rfl) rfl) rfl) rfl
         refine t1g p519.z (okMv s522) rfl (yd p519.z rfl rfl s521) fun a523 p524 s525 => ?_
         have s526 := p524.o s521 rfl
         have s527 := p524.o s520 rfl
         refine t1g p524.z (k490 Tryd.underlying22 Tryd.sizeOf38 s527 s525 _) rfl (yd p524.z rfl rfl s526) fun a528 p529 s530 => ?_
         have s531 := p529.o s526 rfl
         refine t1g p529.z (okFA (o' := o488 + 3) fo38_3 s530 rfl) rfl (yd p529.z rfl rfl s531) fun a532 p533 s534 => ?_
         have s535 := p533.o s531 rfl
         refine t1g p533.z (okFA (o' := o488 + 3) fo36_0 s534 rfl) rfl (yd p533.z rfl rfl s535) fun a536 p537 s538 => ?_
         have s539 := p537.o s535 rfl
         refine t1g p537.z (okLd (j := 3) na3 s538 e492 rfl rfl) rfl (yd p537.z rfl rfl s539) fun a540 p541 s542 => ?_
         have s543 := p541.o s539 rfl
         have s544 := p541.o (p537.o (p533.o (p529.o (p524.o (p519.o s517 rfl) rfl) rfl) rfl) rfl) rfl
         refine t1g p541.z (okMv s544) rfl (yd p541.z rfl rfl s543) fun a545 p546 s547 => ?_
         have s548 := p546.o s543 rfl
         have s549 := p546.o (p541.o (p537.o (p533.o (p529.o (p524.o (p519.o (p511.o (p507.o (p503.o (p499.o (p495.o (p480.o (p475.o (p380.o (p377.o s368 rfl) rfl) rfl) rfl) rfl) rfl) rfl) rfl) rfl) rfl) rfl) rfl) rfl) rfl) rfl) rfl
         refine t1g p546.z (okMv s549) rfl (yd p546.z rfl rfl s548) fun a550 p551 s552 => ?_
         have s553 := p551.o s548 rfl
         have s554 := p551.o s547 rfl
         obtain ⟨y555, hy556, h⟩ := Option.bind_eq_some_iff.1 h
         obtain ⟨b557, o558, cs559, r561, e562, nb563, k560⟩ := q484.at_ hy556
         obtain rfl := r561
         refine t1g p551.z (k560 Tryd.underlying22 Tryd.sizeOf38 s554 s552 _) rfl (yd p551.z rfl rfl s553) fun a564 p565 s566 => ?_
         have s567 := p565.o s553 rfl
         refine t1g p565.z (okFA (o' := o558 + 3) fo38_3 s566 rfl) rfl (yd p565.z rfl rfl s567) fun a568 p569 s570 => ?_
         have s571 := p569.o s567 rfl
         refine t1g p569.z (okFA (o' := o558 + 3) fo36_0 s570 rfl) rfl (yd p569.z rfl rfl s571) fun a572 p573 s574 => ?_
         have s575 := p573.o s571 rfl
         refine t1g p573.z (okLd (j := 3) na3 s574 e562 rfl rfl) rfl (yd p573.z rfl rfl s575) fun a576 p577 s578 => ?_
         have s579 := p577.o s575 rfl
         have s580 := p577.o (p573.o (p569.o (p565.o (p551.o (p546.o s542 rfl) rfl) rfl) rfl) rfl) rfl
         refine t1g p577.z (okNe s580 s578) rfl (yd p577.z rfl rfl s579) fun a581 p582 s583 => ?_
         have s584 := p582.o (p577.o (p573.o (p569.o (p565.o (p551.o (p546.o (p541.o (p537.o (p533.o (p529.o (p524.o (p519.o (p511.o s509 rfl) rfl) rfl) rfl) rfl) rfl) rfl) rfl) rfl) rfl) rfl) rfl) rfl) rfl
         have s585 := p582.o s579 rfl
         refine t1g p582.z (okPickF s585 s583) rfl (yd p582.z rfl rfl s584) fun a586 p587 s588 => ?_
         obtain rfl := Option.some.inj h
         exact tN ⟨(((((((((((((((Pg.refl p511.z).st p519 rfl).st p524 rfl).st p529 rfl).st p533 rfl).st p537 rfl).st p541 rfl).st p546 rfl).st p551 rfl).st p565 rfl).st p569 rfl).st p573 rfl).st p577 rfl).st p582 rfl).st p587 rfl), s588⟩
        ·have s589 := bv s512 hb515
         replace hb514 := (ifP hb515).symm.trans hb514
         clear h; have h := hb514; clear hb514
         refine t1k p511.z rfl (yd p511.z rfl rfl s589) rfl fun a590 p591 s592 => ?_
         have s593 := p591.o s589 rfl
         refine t1k p591.z rfl (yd p591.z rfl rfl s593) rfl fun a594 p595 s596 => ?_
         have s597 := p595.o s593 rfl
         refine t1k p595.z rfl (yd p595.z rfl rfl s597) rfl fun a598 p599 s600 => ?_
         have s601 := p599.o s597 rfl
         refine t1k p599.z rfl (yd p599.z rfl rfl s601) rfl fun a602 p603 s604 => ?_
         have s605 := p603.o s601 rfl
         refine t1k p603.z rfl (yd p603.z rfl rfl s605) rfl fun a606 p607 s608 => ?_
         have s609 := p607.o s605 rfl
         refine t1k p607.z rfl (yd p607.z rfl rfl s609) rfl fun a610 p611 s612 => ?_
         have s613 := p611.o s609 rfl
         refine t1k p611.z rfl (yd p611.z rfl rfl s613) rfl fun a614 p615 s616 => ?_
         have s617 := p615.o s613 rfl
         refine t1k p615.z rfl (yd p615.z rfl rfl s617) rfl fun a618 p619 s620 => ?_
         have s621 := p619.o s617 rfl
         refine t1k p619.z rfl (yd p619.z rfl rfl s621) rfl fun a622 p623 s624 => ?_
         have s625 := p623.o s621 rfl
         refine t1k p623.z rfl (yd p623.z rfl rfl s625) rfl fun a626 p627 s628 => ?_
         have s629 := p627.o s625 rfl
         refine t1k p627.z rfl (yd p627.z rfl rfl s629) rfl fun a630 p631 s632 => ?_
         have s633 := p631.o s629 rfl
         refine t1k p631.z rfl (yd p631.z rfl rfl s633) rfl fun a634 p635 s636 => ?_
         have s637 := p635.o s633 rfl
         refine t1k p635.z rfl (yd p635.z rfl rfl s637) rfl fun a638 p639 s640 => ?_
         have s641 := p639.o (p635.o (p631.o (p627.o (p623.o (p619.o (p615.o (p611.o (p607.o (p603.o (p599.o (p595.o (p591.o (p511.o s509 rfl) rfl) rfl) rfl) rfl) rfl) rfl) rfl) rfl) rfl) rfl) rfl) rfl) rfl
         have s642 := p639.o s637 rfl
         refine t1g p639.z (okPickT s642 cst) rfl (yd p639.z rfl rfl s641) fun a643 p644 s645 => ?_
         obtain rfl := Option.some.inj h
         exact tN ⟨(((((((((((((((Pg.refl p511.z).st p591 rfl).st p595 rfl).st p599 rfl).st p603 rfl).st p607 rfl).st p611 rfl).st p615 rfl).st p619 rfl).st p623 rfl).st p627 rfl).st p631 rfl).st p635 rfl).st p639 rfl).st p644 rfl), s645⟩
       rintro a646 ⟨pg647, s648⟩
       have s649 := pg647.o (p511.o s509 rfl) rfl
       refine t1 pg647.z (okPickT s649 s648) rfl fun a650 p651 s652 => ?_
       obtain rfl := Option.some.inj h
       exact tN ⟨((((((((((Pg.refl p380.z).st p475 rfl).st p480 rfl).st p495 rfl).st p499 rfl).st p503 rfl).st p507 rfl).st p511 rfl).tr pg647 rfl).st p651 rfl), s652⟩
     rintro a653 ⟨pg654, s655⟩
     refine t1 pg654.z (okAs s655) rfl fun a656 p657 s658 => ?_
     refine tN (blkN (thenN ?_))
     refine reg ?_
     have s659 := p657.o (pg654.o (p380.o (p377.o (pg371.o s352 rfl) rfl) rfl) rfl) rfl
     refine s1 p657.z (okMv s659) rfl fun a660 p661 s662 => ?_
     refine s1 p661.z (okAdd s662 cst) rfl fun a663 p664 s665 => ?_
     refine s1 p664.z (okAs s665) rfl fun a666 p667 s668 => ?_
     have s669 := p667.o (p664.o (p661.o (p657.o (pg654.o (p380.o (p377.o (pg371.o s333 rfl) rfl) rfl) rfl) rfl) rfl) rfl) rfl
     have s670 := p667.o (p664.o (p661.o (p657.o (pg654.o (p380.o (p377.o (pg371.o s334 rfl) rfl) rfl) rfl) rfl) rfl) rfl) rfl
     have s671 := p667.o (p664.o (p661.o (p657.o (pg654.o (p380.o (p377.o (pg371.o s335 rfl) rfl) rfl) rfl) rfl) rfl) rfl) rfl
     have s672 := p667.o (p664.o (p661.o (p657.o (pg654.o (p380.o (p377.o (pg371.o s336 rfl) rfl) rfl) rfl) rfl) rfl) rfl) rfl
     have s673 := p667.o (p664.o (p661.o (p657.o (pg654.o (p380.o (p377.o (pg371.o s337 rfl) rfl) rfl) rfl) rfl) rfl) rfl) rfl
     have s674 := p667.o (p664.o (p661.o (p657.o (pg654.o (p380.o (p377.o s368 rfl) rfl) rfl) rfl) rfl) rfl) rfl
     have s675 := p667.o (p664.o (p661.o (p657.o (pg654.o (p380.o (p377.o (pg371.o s339 rfl) rfl) rfl) rfl) rfl) rfl) rfl) rfl
     have s676 := p667.o (p664.o (p661.o (p657.o (pg654.o (p380.o (p377.o (pg371.o s340 rfl) rfl) rfl) rfl) rfl) rfl) rfl) rfl
     have s677 := p667.o (p664.o (p661.o (p657.o (pg654.o (p380.o (p377.o (pg371.o s341 rfl) rfl) rfl) rfl) rfl) rfl) rfl) rfl
     have s678 := p667.o (p664.o (p661.o (p657.o (pg654.o (p380.o (p377.o (pg371.o s342 rfl) rfl) rfl) rfl) rfl) rfl) rfl) rfl
     have s679 := p667.o (p664.o (p661.o (p657.o (pg654.o (p380.o (p377.o (pg371.o s343 rfl) rfl) rfl) rfl) rfl) rfl) rfl) rfl
     have s680 := p667.o (p664.o (p661.o (p657.o (pg654.o (p380.o (p377.o (pg371.o s344 rfl) rfl) rfl) rfl) rfl) rfl) rfl) rfl
     have s681 := p667.o (p664.o (p661.o (p657.o (pg654.o (p380.o (p377.o (pg371.o s345 rfl) rfl) rfl) rfl) rfl) rfl) rfl) rfl
     have s682 := p667.o (p664.o (p661.o (p657.o (pg654.o (p380.o (p377.o (pg371.o s346 rfl) rfl) rfl) rfl) rfl) rfl) rfl) rfl
     have s683 := p667.o (p664.o (p661.o (p657.o (pg654.o (p380.o (p377.o (pg371.o s347 rfl) rfl) rfl) rfl) rfl) rfl) rfl) rfl
     have s684 := p667.o (p664.o (p661.o (p657.o (pg654.o (p380.o (p377.o (pg371.o s348 rfl) rfl) rfl) rfl) rfl) rfl) rfl) rfl
     have s685 := p667.o (p664.o (p661.o (p657.o (pg654.o (p380.o (p377.o (pg371.o s349 rfl) rfl) rfl) rfl) rfl) rfl) rfl) rfl
     have s686 := p667.o (p664.o (p661.o (p657.o (pg654.o (p380.o (p377.o (pg371.o s350 rfl) rfl) rfl) rfl) rfl) rfl) rfl) rfl
     have s687 := p667.o (p664.o (p661.o s658 rfl) rfl) rfl
     have q688 := q353.mono g373.t0
     have q689 := q354.mono g373.t0
     exact rN (thenN ⟨k, Nat.lt_succ_self k, (w64 (i306 + 1)), b382, p667.z, s669, s670, s671, s672, s673, s674, s675, s676, s677, s678, s679, s680, s681, s682, s683, s684, s685, s686, s687, s668, q688, q689, cx374, h⟩)
    replace h := (ifN hb372).symm.trans h
    obtain rfl := Option.some.inj h
    have s690 := pg371.o s333 rfl
    have s691 := pg371.o s334 rfl
    have s692 := pg371.o s335 rfl
    have s693 := pg371.o s336 rfl
    have s694 := pg371.o s337 rfl
    have s695 := pg371.o s339 rfl
    have s696 := pg371.o s340 rfl
    have s697 := pg371.o s341 rfl
    have s698 := pg371.o s342 rfl
    have s699 := pg371.o s343 rfl
    have s700 := pg371.o s344 rfl
    have s701 := pg371.o s345 rfl
    have s702 := pg371.o s346 rfl
    have s703 := pg371.o s347 rfl
    have s704 := pg371.o s348 rfl
    have s705 := pg371.o s349 rfl
    have s706 := pg371.o s350 rfl
    have s707 := pg371.o s351 rfl
    have s708 := pg371.o s352 rfl
    exact wp_exit (thenE (thenE (jqE ⟨pg371.z, s690, s691, s692, s693, s694, s368, s695, s696, s697, s698, s699, s700, s701, s702, s703, s704, s705, s706, s707, s708, q353, q354, cx355⟩)))
   clear ho309
   rintro a709 w710 ⟨z711, s712, s713, s714, s715, s716, s717, s718, s719, s720, s721, s722, s723, s724, s725, s726, s727, s728, s729, s730, s731, q732, q733, cx734⟩
   refine blkE (thenN ?_)
   refine wp_seq ?_
   refine reg ?_
   refine s1 z711 (okMv s730) rfl fun a735 p736 s737 => ?_
   refine rN (thenN ?_)
   refine cnd s737 (fun hb738 => ?_) (fun hb738 => ?_)
   ·replace h := (ifP hb738).symm.trans h
    refine reg ?_
    have s739 := p736.o s716 rfl
    refine s1 p736.z (okMv s739) rfl fun a740 p741 s742 => ?_
    have s743 := p741.o (p736.o s712 rfl) rfl
    refine s1 p741.z (okMv s743) rfl fun a744 p745 s746 => ?_
    have s747 := p745.o s743 rfl
    refine s1 p745.z (okMv s747) rfl fun a748 p749 s750 => ?_
    have s751 := p749.o (p745.o (p741.o (p736.o s717 rfl) rfl) rfl) rfl
    refine s1 p749.z (okMv s751) rfl fun a752 p753 s754 => ?_
    have s755 := p753.o s750 rfl
    obtain ⟨y756, hy757, h⟩ := Option.bind_eq_some_iff.1 h
    obtain ⟨b758, o759, cs760, r762, e763, nb764, k761⟩ := q732.at_ hy757
    obtain rfl := r762
    refine s1 p753.z (k761 Tryd.underlying22 Tryd.sizeOf38 s755 s754 _) rfl fun a765 p766 s767 => ?_
    refine s1 p766.z (okFA (o' := o759 + 3) fo38_3 s767 rfl) rfl fun a768 p769 s770 => ?_
    refine s1 p769.z (okFA (o' := o759 + 3) fo36_0 s770 rfl) rfl fun a771 p772 s773 => ?_
    refine s1 p772.z (okLd (j := 3) na3 s773 e763 rfl rfl) rfl fun a774 p775 s776 => ?_
    have s777 := p775.o (p772.o (p769.o (p766.o (p753.o (p749.o s746 rfl) rfl) rfl) rfl) rfl) rfl
    obtain ⟨t778, ht779, h⟩ := Option.bind_eq_some_iff.1 h
    refine lS (oCall p775.z Tryd.call19 (ag2 s777 s776) (c19 k L w710 cx734.lt _ _ q732 _ _ ht779) rfl fun v783 a780 w781 hp784 p782 sp782 => ?_)
    obtain ⟨rfl, g785⟩ := hp784
    have cx786 := cx734.ca g785
    have s787 := p782.o (p775.o (p772.o (p769.o (p766.o (p753.o (p749.o (p745.o s742 rfl) rfl) rfl) rfl) rfl) rfl) rfl) rfl
    refine s1 p782.z (okAdd s787 sp782) rfl fun a788 p789 s790 => ?_
    refine s1 p789.z (okAs s790) rfl fun a791 p792 s793 => ?_
    refine rN (blkN (thenN ?_))
    refine reg ?_
    have s794 := p792.o (p789.o (p782.o (p775.o (p772.o (p769.o (p766.o (p753.o s751 rfl) rfl) rfl) rfl) rfl) rfl) rfl) rfl
    refine s1 p792.z (okMv s794) rfl fun a795 p796 s797 => ?_
    refine s1 p796.z (okAdd s797 cst) rfl fun a798 p799 s800 => ?_
    refine s1 p799.z (okAs s800) rfl fun a801 p802 s803 => ?_
    have s804 := p802.o (p799.o (p796.o (p792.o (p789.o (p782.o (p775.o (p772.o (p769.o (p766.o (p753.o (p749.o s747 rfl) rfl) rfl) rfl) rfl) rfl) rfl) rfl) rfl) rfl) rfl) rfl
    have s805 := p802.o (p799.o (p796.o (p792.o (p789.o (p782.o (p775.o (p772.o (p769.o (p766.o (p753.o (p749.o (p745.o (p741.o (p736.o s713 rfl) rfl) rfl) rfl) rfl) rfl) rfl) rfl) rfl) rfl) rfl) rfl) rfl) rfl) rfl
    have s806 := p802.o (p799.o (p796.o (p792.o (p789.o (p782.o (p775.o (p772.o (p769.o (p766.o (p753.o (p749.o (p745.o (p741.o (p736.o s714 rfl) rfl) rfl) rfl) rfl) rfl) rfl) rfl) rfl) rfl) rfl) rfl) rfl) rfl) rfl
    have s807 := p802.o (p799.o (p796.o (p792.o (p789.o (p782.o (p775.o (p772.o (p769.o (p766.o (p753.o (p749.o (p745.o (p741.o (p736.o s715 rfl) rfl) rfl) rfl) rfl) rfl) rfl) rfl) rfl) rfl) rfl) rfl) rfl) rfl) rfl
    have s808 := p802.o (p799.o (p796.o s793 rfl) rfl) rfl
    have q809 := q732.mono g785.t0
    have q810 := q733.mono g785.t0
    exact rN (thenN ⟨k, Nat.lt_succ_self k, (w64 (i193 + 1)), (w64 (i194 + t778)), (w64 (i195 + 1)), p802.z, s804, s805, s806, s807, s808, s803, q809, q810, cx786, h⟩)
   replace h := (ifN hb738).symm.trans h
   refine wp_skip (blkN (thenN ?_))
   refine reg ?_
   have s811 := p736.o s717 rfl
   refine s1 p736.z (okMv s811) rfl fun a812 p813 s814 => ?_
   refine s1 p813.z (okAdd s814 cst) rfl fun a815 p816 s817 => ?_
   refine s1 p816.z (okAs s817) rfl fun a818 p819 s820 => ?_
   have s821 := p819.o (p816.o (p813.o (p736.o s712 rfl) rfl) rfl) rfl
   have s822 := p819.o (p816.o (p813.o (p736.o s713 rfl) rfl) rfl) rfl
   have s823 := p819.o (p816.o (p813.o (p736.o s714 rfl) rfl) rfl) rfl
   have s824 := p819.o (p816.o (p813.o (p736.o s715 rfl) rfl) rfl) rfl
   have s825 := p819.o (p816.o (p813.o (p736.o s716 rfl) rfl) rfl) rfl
   exact rN (thenN ⟨k, Nat.lt_succ_self k, (w64 (i193 + 1)), i194, (w64 (i195 + 1)), p819.z, s821, s822, s823, s824, s825, s820, q732, q733, cx734, h⟩)
  replace h := (ifN hb238).symm.trans h
  obtain rfl := Option.some.inj h
  have s826 := pg237.o s210 rfl
  have s827 := pg237.o s211 rfl
  have s828 := pg237.o s212 rfl
  have s829 := pg237.o s213 rfl
  exact wp_exit (thenE (thenE (jqE ⟨pg237.z, s826, s827, s828, s829, q216, cx217⟩)))
 clear ho197
 rintro a830 w831 ⟨z832, s833, s834, s835, s836, q837, cx838⟩
 refine blkE (thenN ?_)
 refine wp_seq ?_
 refine reg ?_
 refine s1 z832 (okMv s834) rfl fun a839 p840 s841 => ?_
 refine s1 p840.z (okMv s841) rfl fun a842 p843 s844 => ?_
 refine cutP 4 (fun a' => Pg Tryd.f5.ntmps [87, 88, 89, 90] a842 a' ∧ a'.eval (.tmp 90) = .bool (t4 && (o196.2 == o196.1))) ?_ ?_
 ·rcases bf t4 with hb845 | hb845
  ·have s846 := bv s844 hb845
   refine s1k p843.z rfl (yd p843.z rfl rfl s846) rfl fun a847 p848 s849 => ?_
   have s850 := p848.o s846 rfl
   refine s1k p848.z rfl (yd p848.z rfl rfl s850) rfl fun a851 p852 s853 => ?_
   have s854 := p852.o s850 rfl
   refine s1k p852.z rfl (yd p852.z rfl rfl s854) rfl fun a855 p856 s857 => ?_
   have s858 := p856.o s854 rfl
   refine s1 p856.z (okPickF s858 cst) rfl fun a859 p860 s861 => ?_
   exact rN ⟨rfl, rfl, (((((Pg.refl p843.z).st p848 rfl).st p852 rfl).st p856 rfl).st p860 rfl), (andF hb845 s861)⟩
  ·have s862 := bv s844 hb845
   have s863 := p843.o (p840.o s836 rfl) rfl
   refine s1g p843.z (okMv s863) rfl (yd p843.z rfl rfl s862) fun a864 p865 s866 => ?_
   have s867 := p865.o s862 rfl
   have s868 := p865.o (p843.o (p840.o s835 rfl) rfl) rfl
   refine s1g p865.z (okMv s868) rfl (yd p865.z rfl rfl s867) fun a869 p870 s871 => ?_
   have s872 := p870.o s867 rfl
   have s873 := p870.o s866 rfl
   refine s1g p870.z (okEq s873 s871) rfl (yd p870.z rfl rfl s872) fun a874 p875 s876 => ?_
   have s877 := p875.o s872 rfl
   refine s1 p875.z (okPickT s877 s876) rfl fun a878 p879 s880 => ?_
   exact rN ⟨rfl, rfl, (((((Pg.refl p843.z).st p865 rfl).st p870 rfl).st p875 rfl).st p879 rfl), (andT hb845 s880)⟩
 rintro a881 ⟨pg882, s883⟩
 refine s1 pg882.z (okAs s883) rfl fun a884 p885 s886 => ?_
 refine rN (thenN ?_)
 obtain rfl := Option.some.inj h
 exact wp_ret (ret1 p885.z Tryd.results5 (rvT s886) ⟨_, rfl, rfl, cx838.g⟩)
end Go.Proofs.YtbfndihcbogjfaaDoor
