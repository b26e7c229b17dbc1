/-
  The Go functions model_rw, model_swap, model_done, model_Do, model_New, tholelaw10_up, tholelaw10_light, tholeref10_Same: each comes to its plain function. Conditions: where the plain function is some.
-/
import Derived.Test.YtbfndihcbogjfaaW1
set_option linter.unusedVariables false
namespace Go.Proofs.Ytbfndihcbogjfaa
open Go Go.RowKit Go.Proofs.Ytbfndihcbogjfaa.Gx
set_option maxHeartbeats 4000000 in
theorem c24 (k : Nat) (L : List Nat) (w : World) (hL : ∀ b ∈ L, b < w.heap.size) (x0 : TThing) (h0_0 : Value) (qh0_0 : RdS KTWaiter L w h0_0 x0.waiters) (x1 : Int) (x2 : TNote) (r : TThing × Bool) (h : model_rw k x0 x1 x2 = some r) : Calls Try.prog 24 #[.agg (TThing.C x0 h0_0).toArray, .int .i64 x1, .agg (TNote.C x2).toArray] w (fun e w' => ∃ v, e = .returned v ∧ ∃ u_0, v = .tuple #[.agg (TThing.C r.1 u_0).toArray, .bool r.2] ∧ RdS KTWaiter L w' u_0 r.1.waiters ∧ G [] w w') := by
  refine enterF Try.func24 rfl rfl fun a0 z0 A => ?_
  have s0_0 := A 0 (.agg (TThing.C x0 h0_0).toArray) rfl
  have s0_1 := A 1 (.int .i64 x1) rfl
  have s0_2 := A 2 (.agg (TNote.C x2).toArray) rfl
  clear A
  have c0 : Cx [] w L w := ⟨G.refl _ _, hL⟩
  unfold model_rw at h
  refine wp_seq ?_
  refine reg ?_
  refine lS (oBox (l := TThing.C x0 h0_0) z0 s0_0 rfl rfl fun a1 w2 b3 p4 sp4 m5 g6 e7 => ?_)
  have f9 := c0.nw e7
  have cx8 := c0.al g6 m5
  have s10 := p4.o s0_2 rfl
  refine lS (oBox (l := TNote.C x2) p4.z s10 rfl rfl fun a11 w12 b13 p14 sp14 m15 g16 e17 => ?_)
  have f19 := cx8.nw e17
  have cx18 := cx8.al g16 m15
  have m27 := m5.g0 g16
  refine lS (oAlloc zv25 p14.z rfl fun a20 w21 b22 p23 sp23 m24 g25 e26 => ?_)
  have f29 := cx18.nw e26
  have cx28 := cx18.al g25 m24
  refine s1 p23.z (okAs cst) rfl fun a30 p31 s32 => ?_
  refine rN (thenN ?_)
  refine wp_seq ?_
  obtain ⟨t62, ht63, h⟩ := Option.bind_eq_some_iff.1 h
  have s83 := p31.o (p23.o (p14.o (p4.o s0_1 rfl) rfl) rfl) rfl
  have s84 := p31.o (p23.o (p14.o sp4 rfl) rfl) rfl
  have s85 := p31.o (p23.o sp14 rfl) rfl
  have s86 := p31.o sp23 rfl
  have m87 := m27.g0 g25
  have m88 := m15.g0 g25
  refine regJ (fun a' w' => Z Try.f24.ntmps a' ∧ a'.eval (.tmp 1) = .int .i64 x1 ∧ a'.eval (.tmp 3) = ptr b3 0 ∧ a'.eval (.tmp 5) = ptr b13 0 ∧ a'.eval (.tmp 6) = ptr b22 0 ∧ a'.eval (.tmp 7) = .bool false ∧ a'.eval (.tmp 8) = .int .i64 x2.value ∧ a'.eval (.tmp 9) = .bool (x0.owner == x1) ∧ a'.eval (.tmp 10) = .int .i64 t62 ∧ Bk w' b3 (TThing.C x0 h0_0) 25 ∧ Bk w' b13 (TNote.C x2) 29 ∧ Bk w' b22 (TThing.C (⟨0, 0, 0, 0, Arr8.zero, [], 0, 0⟩ : TThing) (.slice none 0 0)) 25 ∧ Cx [] w (b22 :: b13 :: b3 :: L) w' ∧ Tr (b22 :: b13 :: b3 :: L) w21 (b22 :: b13 :: b3 :: L) w') ?_ ?_
  · refine regH (n := 11) [(1, fun w' => Cl w' b13 1 [.int .i64 x2.value]), (3, fun w' => Cl w' b3 2 [.int .i64 x0.owner]), (6, fun w' => Cl w' b3 0 (TThing.C x0 h0_0))] mixed rfl ?_
    have g89 := G.drew w21
    have cx90 := cx28.ca g89
    refine hTakeW (i := 0) rfl (by kernel_rfl) (by kernel_rfl) (by kernel_rfl) nrm (cond := fun _ => True) (.inl fun _ => trivial) p31.z (wN rfl) (fun _ _ => okFA (o' := 1) fo29_1 s85 rfl) trivial rfl fun a91 p92 sp92 => ?_
    have m93 := m88.g0 g89
    refine hTakeW (i := 1) rfl (by kernel_rfl) (by kernel_rfl) (by kernel_rfl) nrm (.inr (.head _)) p92.z (wN rfl) (fun _ h => okLd (j := 0) na2 sp92 h rfl rfl) (m93.clp rfl) rfl fun a94 p95 sp95 => ?_
    have s96 := p95.o (p92.o s84 rfl) rfl
    refine hTakeW (i := 2) rfl (by kernel_rfl) (by kernel_rfl) (by kernel_rfl) nrm (cond := fun _ => True) (.inl fun _ => trivial) p95.z (wN rfl) (fun _ _ => okFA (o' := 2) fo25_2 s96 rfl) trivial rfl fun a97 p98 sp98 => ?_
    have m99 := m87.g0 g89
    refine hTakeW (i := 3) rfl (by kernel_rfl) (by kernel_rfl) (by kernel_rfl) nrm (.inr (.tail _ (.head _))) p98.z (wN rfl) (fun _ h => okLd (j := 0) na3 sp98 h rfl rfl) (m99.clp rfl) rfl fun a100 p101 sp101 => ?_
    have s102 := p101.o (p98.o (p95.o (p92.o s83 rfl) rfl) rfl) rfl
    refine hTakeW (i := 4) rfl (by kernel_rfl) (by kernel_rfl) (by kernel_rfl) nrm (cond := fun _ => True) (.inl fun _ => trivial) p101.z (wN rfl) (fun _ _ => okMv s102) trivial rfl fun a103 p104 sp104 => ?_
    have s105 := p104.o sp101 rfl
    refine hTakeW (i := 5) rfl (by kernel_rfl) (by kernel_rfl) (by kernel_rfl) nrm (cond := fun _ => True) (.inl fun _ => trivial) p104.z (wN rfl) (fun _ _ => okEq s105 sp104) trivial rfl fun a106 p107 sp107 => ?_
    have s108 := p107.o (p104.o (p101.o (p98.o s96 rfl) rfl) rfl) rfl
    refine hTakeW (i := 6) rfl (by kernel_rfl) (by kernel_rfl) (by kernel_rfl) nrm (.inr (.tail _ (.tail _ (.head _)))) p107.z (wN rfl) (fun _ h => okLdA ag25 s108 h rfl rfl whole) (m99.clp rfl) rfl fun a109 p110 sp110 => ?_
    have q111 := qh0_0.mono ((((g6.tA (Nat.le_of_eq e7.symm)).trans (g16.tA (Nat.le_of_eq e17.symm))).trans (g25.tA (Nat.le_of_eq e26.symm))).trans g89.t0)
    refine hOne (i := 7) (by kernel_rfl) rfl (oCall p110.z Try.call33 (ag1 sp110) (c33 k (b22 :: b13 :: b3 :: L) w21.drew cx90.lt _ _ q111 _ ht63) rfl fun v115 a112 w113 hp116 p114 sp114 => ?_)
    obtain ⟨rfl, g117⟩ := hp116
    have cx118 := cx90.ca g117
    refine ⟨⟨.inr fun h => h.g0 g117, .inr fun h => h.g0 g117, .inl rfl, trivial⟩, ?_⟩
    have s119 := p114.o (p110.o (p107.o (p104.o (p101.o (p98.o sp95 rfl) rfl) rfl) rfl) rfl) rfl
    refine hTakeW (i := 8) rfl (by kernel_rfl) (by kernel_rfl) (by kernel_rfl) nrm (cond := fun _ => True) (.inl fun _ => trivial) p114.z (wN rfl) (fun _ _ => okAs s119) trivial rfl fun a120 p121 sp121 => ?_
    have s122 := p121.o (p114.o (p110.o sp107 rfl) rfl) rfl
    refine hTakeW (i := 9) rfl (by kernel_rfl) (by kernel_rfl) (by kernel_rfl) nrm (cond := fun _ => True) (.inl fun _ => trivial) p121.z (wN rfl) (fun _ _ => okAs s122) trivial rfl fun a123 p124 sp124 => ?_
    have s125 := p124.o (p121.o sp114 rfl) rfl
    refine hTakeW (i := 10) rfl (by kernel_rfl) (by kernel_rfl) (by kernel_rfl) nrm (cond := fun _ => True) (.inl fun _ => trivial) p124.z (wN rfl) (fun _ _ => okAs s125) trivial rfl fun a126 p127 sp127 => ?_
    have s128 := p127.o (p124.o (p121.o (p114.o (p110.o (p107.o (p104.o s102 rfl) rfl) rfl) rfl) rfl) rfl) rfl
    have s129 := p127.o (p124.o (p121.o (p114.o (p110.o s108 rfl) rfl) rfl) rfl) rfl
    have s130 := p127.o (p124.o (p121.o (p114.o (p110.o (p107.o (p104.o (p101.o (p98.o (p95.o (p92.o s85 rfl) rfl) rfl) rfl) rfl) rfl) rfl) rfl) rfl) rfl) rfl
    have s131 := p127.o (p124.o (p121.o (p114.o (p110.o (p107.o (p104.o (p101.o (p98.o (p95.o (p92.o s86 rfl) rfl) rfl) rfl) rfl) rfl) rfl) rfl) rfl) rfl) rfl
    have s132 := p127.o (p124.o (p121.o (p114.o (p110.o (p107.o (p104.o (p101.o (p98.o (p95.o (p92.o s32 rfl) rfl) rfl) rfl) rfl) rfl) rfl) rfl) rfl) rfl) rfl
    have s133 := p127.o (p124.o sp121 rfl) rfl
    have s134 := p127.o sp124 rfl
    have m135 := m99.g0 g117
    have m136 := m93.g0 g117
    have m137 := (m24.g0 g89).g0 g117
    exact hDone (by kernel_rfl) ⟨rfl, p127.z, s128, s129, s130, s131, s132, s133, s134, sp127, m135, m136, m137, cx118, (g89.t0.trans g117.t0)⟩
  rintro a138 w139 ⟨z140, s141, s142, s143, s144, s145, s146, s147, s148, m149, m150, m151, cx152, t153⟩
  refine thenN ?_
  refine wp_seq ?_
  refine wp_seq ?_
  refine reg ?_
  refine s1 z140 (okFA (o' := 0) fo29_0 s143 rfl) rfl fun a154 p155 s156 => ?_
  refine s1 p155.z (okLd (j := 0) na3 s156 (m150.cl) rfl rfl) rfl fun a157 p158 s159 => ?_
  refine rN (thenN ?_)
  refine wp_block ?_
  refine wp_seq ?_
  refine reg ?_
  refine s1 p158.z (okEq s159 cst) rfl fun a160 p161 s162 => ?_
  refine s1 p161.z (okAs s162) rfl fun a163 p164 s165 => ?_
  refine rN (thenN ?_)
  have s166 := p164.o (p161.o s159 rfl) rfl
  have pg167 : Pg _ [20, 21, 22, 23] _ _ := (((((Pg.refl z140).st p155 rfl).st p158 rfl).st p161 rfl).st p164 rfl)
  refine cnd s165 (fun hb168 => ?_) (fun hb168 => ?_)
  · replace h := (ifP hb168).symm.trans h
    refine wp_seq ?_
    refine reg ?_
    have s169 := pg167.o s146 rfl
    refine s1 pg167.z (okMv s169) rfl fun a170 p171 s172 => ?_
    refine s1 p171.z (okEq s172 cst) rfl fun a173 p174 s175 => ?_
    refine s1 p174.z (okMv s175) rfl fun a176 p177 s178 => ?_
    refine cutP 16 (fun a' => Pg Try.f24.ntmps [27, 28, 29, 30, 31, 32, 33, 34, 35, 36, 37, 38, 39, 40, 41, 42] a176 a' ∧ a'.eval (.tmp 42) = .bool ((x2.value == 1) && (((x0.owner == (-1)) && (t62 == 0)) || ((x0.owner == x1) && (decide (x0.holds < 1000)))))) ?_ ?_
    · rcases bf (x2.value == 1) with hb179 | hb179
      · have s180 := bv s178 hb179
        refine s1k p177.z rfl (yd p177.z rfl rfl s180) rfl fun a181 p182 s183 => ?_
        have s184 := p182.o s180 rfl
        refine s1k p182.z rfl (yd p182.z rfl rfl s184) rfl fun a185 p186 s187 => ?_
        have s188 := p186.o s184 rfl
        refine s1k p186.z rfl (yd p186.z rfl rfl s188) rfl fun a189 p190 s191 => ?_
        have s192 := p190.o s188 rfl
        refine s1k p190.z rfl (yd p190.z rfl rfl s192) rfl fun a193 p194 s195 => ?_
        refine s1k p194.z rfl (ydU p194.z rfl rfl s195) rfl fun a196 p197 s198 => ?_
        have s199 := p197.o s195 rfl
        refine s1k p197.z rfl (ydU p197.z rfl rfl s199) rfl fun a200 p201 s202 => ?_
        have s203 := p201.o (p197.o (p194.o s192 rfl) rfl) rfl
        refine s1k p201.z rfl (yd p201.z rfl rfl s203) rfl fun a204 p205 s206 => ?_
        have s207 := p205.o s203 rfl
        refine s1k p205.z rfl (yd p205.z rfl rfl s207) rfl fun a208 p209 s210 => ?_
        refine s1k p209.z rfl (ydU p209.z rfl rfl s210) rfl fun a211 p212 s213 => ?_
        have s214 := p212.o s210 rfl
        refine s1k p212.z rfl (ydU p212.z rfl rfl s214) rfl fun a215 p216 s217 => ?_
        refine s1k p216.z rfl (ydU p216.z rfl rfl s217) rfl fun a218 p219 s220 => ?_
        have s221 := p219.o s217 rfl
        refine s1k p219.z rfl (ydU p219.z rfl rfl s221) rfl fun a222 p223 s224 => ?_
        have s225 := p223.o s221 rfl
        refine s1k p223.z rfl (ydU p223.z rfl rfl s225) rfl fun a226 p227 s228 => ?_
        have s229 := p227.o (p223.o (p219.o (p216.o s214 rfl) rfl) rfl) rfl
        refine s1k p227.z rfl (ydU p227.z rfl rfl s229) rfl fun a230 p231 s232 => ?_
        have s233 := p231.o (p227.o (p223.o (p219.o (p216.o (p212.o (p209.o s207 rfl) rfl) rfl) rfl) rfl) rfl) rfl
        refine s1k p231.z rfl (yd p231.z rfl rfl s233) rfl fun a234 p235 s236 => ?_
        have s237 := p235.o s233 rfl
        refine s1 p235.z (okPickF s237 cst) rfl fun a238 p239 s240 => ?_
        exact rN ⟨rfl, rfl, (((((((((((((((((Pg.refl p177.z).st p182 rfl).st p186 rfl).st p190 rfl).st p194 rfl).st p197 rfl).st p201 rfl).st p205 rfl).st p209 rfl).st p212 rfl).st p216 rfl).st p219 rfl).st p223 rfl).st p227 rfl).st p231 rfl).st p235 rfl).st p239 rfl), (andF hb179 s240)⟩
      · have s241 := bv s178 hb179
        have s242 := p177.o (p174.o (p171.o (pg167.o s142 rfl) rfl) rfl) rfl
        refine s1g p177.z (okFA (o' := 2) fo25_2 s242 rfl) rfl (yd p177.z rfl rfl s241) fun a243 p244 s245 => ?_
        have s246 := p244.o s241 rfl
        refine s1g p244.z (okLd (j := 2) na3 s245 (m149.cl) rfl rfl) rfl (yd p244.z rfl rfl s246) fun a247 p248 s249 => ?_
        have s250 := p248.o s246 rfl
        refine s1g p248.z (okEq s249 cst) rfl (yd p248.z rfl rfl s250) fun a251 p252 s253 => ?_
        have s254 := p252.o s250 rfl
        refine s1g p252.z (okMv s253) rfl (yd p252.z rfl rfl s254) fun a255 p256 s257 => ?_
        refine cutP 3 (fun a' => Pg Try.f24.ntmps [31, 32, 33] a255 a' ∧ a'.eval (.tmp 33) = .bool ((x0.owner == (-1)) && (t62 == 0))) ?_ ?_
        · rcases bf (x0.owner == (-1)) with hb258 | hb258
          · have s259 := bv s257 hb258
            refine s1k p256.z rfl (yd p256.z rfl rfl s259) rfl fun a260 p261 s262 => ?_
            have s263 := p261.o s259 rfl
            refine s1k p261.z rfl (yd p261.z rfl rfl s263) rfl fun a264 p265 s266 => ?_
            have s267 := p265.o (p261.o (p256.o s254 rfl) rfl) rfl
            have s268 := p265.o s263 rfl
            refine s1g p265.z (okPickF s268 cst) rfl (yd p265.z rfl rfl s267) fun a269 p270 s271 => ?_
            exact rN ⟨rfl, rfl, ((((Pg.refl p256.z).st p261 rfl).st p265 rfl).st p270 rfl), (andF hb258 s271)⟩
          · have s272 := bv s257 hb258
            have s273 := p256.o (p252.o (p248.o (p244.o (p177.o (p174.o (p171.o (pg167.o s148 rfl) rfl) rfl) rfl) rfl) rfl) rfl) rfl
            refine s1g p256.z (okMv s273) rfl (yd p256.z rfl rfl s272) fun a274 p275 s276 => ?_
            have s277 := p275.o s272 rfl
            refine s1g p275.z (okEq s276 cst) rfl (yd p275.z rfl rfl s277) fun a278 p279 s280 => ?_
            have s281 := p279.o (p275.o (p256.o s254 rfl) rfl) rfl
            have s282 := p279.o s277 rfl
            refine s1g p279.z (okPickT s282 s280) rfl (yd p279.z rfl rfl s281) fun a283 p284 s285 => ?_
            exact rN ⟨rfl, rfl, ((((Pg.refl p256.z).st p275 rfl).st p279 rfl).st p284 rfl), (andT hb258 s285)⟩
        rintro a286 ⟨pg287, s288⟩
        have s289 := pg287.o (p256.o s254 rfl) rfl
        refine s1g pg287.z (okMv s288) rfl (yd pg287.z rfl rfl s289) fun a290 p291 s292 => ?_
        refine cutP 7 (fun a' => Pg Try.f24.ntmps [35, 36, 37, 38, 39, 40, 41] a290 a' ∧ a'.eval (.tmp 41) = .bool (((x0.owner == (-1)) && (t62 == 0)) || ((x0.owner == x1) && (decide (x0.holds < 1000))))) ?_ ?_
        · rcases bf ((x0.owner == (-1)) && (t62 == 0)) with hb293 | hb293
          · have s294 := bv s292 hb293
            have s295 := p291.o (pg287.o (p256.o (p252.o (p248.o (p244.o (p177.o (p174.o (p171.o (pg167.o s147 rfl) rfl) rfl) rfl) rfl) rfl) rfl) rfl) rfl) rfl
            refine s1g p291.z (okMv s295) rfl (yd p291.z rfl rfl s294) fun a296 p297 s298 => ?_
            have s299 := p297.o s294 rfl
            refine s1g p297.z (okMv s298) rfl (yd p297.z rfl rfl s299) fun a300 p301 s302 => ?_
            refine cutP 4 (fun a' => Pg Try.f24.ntmps [37, 38, 39, 40] a300 a' ∧ a'.eval (.tmp 40) = .bool ((x0.owner == x1) && (decide (x0.holds < 1000)))) ?_ ?_
            · rcases bf (x0.owner == x1) with hb303 | hb303
              · have s304 := bv s302 hb303
                refine s1k p301.z rfl (yd p301.z rfl rfl s304) rfl fun a305 p306 s307 => ?_
                have s308 := p306.o s304 rfl
                refine s1k p306.z rfl (yd p306.z rfl rfl s308) rfl fun a309 p310 s311 => ?_
                have s312 := p310.o s308 rfl
                refine s1k p310.z rfl (yd p310.z rfl rfl s312) rfl fun a313 p314 s315 => ?_
                have s316 := p314.o (p310.o (p306.o (p301.o s299 rfl) rfl) rfl) rfl
                have s317 := p314.o s312 rfl
                refine s1g p314.z (okPickF s317 cst) rfl (yd p314.z rfl rfl s316) fun a318 p319 s320 => ?_
                exact rN ⟨rfl, rfl, (((((Pg.refl p301.z).st p306 rfl).st p310 rfl).st p314 rfl).st p319 rfl), (andF hb303 s320)⟩
              · have s321 := bv s302 hb303
                have s322 := p301.o (p297.o (p291.o (pg287.o (p256.o (p252.o (p248.o (p244.o s242 rfl) rfl) rfl) rfl) rfl) rfl) rfl) rfl
                refine s1g p301.z (okFA (o' := 3) fo25_3 s322 rfl) rfl (yd p301.z rfl rfl s321) fun a323 p324 s325 => ?_
                have s326 := p324.o s321 rfl
                refine s1g p324.z (okLd (j := 3) na3 s325 (m149.cl) rfl rfl) rfl (yd p324.z rfl rfl s326) fun a327 p328 s329 => ?_
                have s330 := p328.o s326 rfl
                refine s1g p328.z (okLt s329 cst) rfl (yd p328.z rfl rfl s330) fun a331 p332 s333 => ?_
                have s334 := p332.o (p328.o (p324.o (p301.o s299 rfl) rfl) rfl) rfl
                have s335 := p332.o s330 rfl
                refine s1g p332.z (okPickT s335 s333) rfl (yd p332.z rfl rfl s334) fun a336 p337 s338 => ?_
                exact rN ⟨rfl, rfl, (((((Pg.refl p301.z).st p324 rfl).st p328 rfl).st p332 rfl).st p337 rfl), (andT hb303 s338)⟩
            rintro a339 ⟨pg340, s341⟩
            have s342 := pg340.o (p301.o (p297.o (p291.o s289 rfl) rfl) rfl) rfl
            have s343 := pg340.o (p301.o s299 rfl) rfl
            refine s1g pg340.z (okPickF s343 s341) rfl (yd pg340.z rfl rfl s342) fun a344 p345 s346 => ?_
            exact rN ⟨rfl, rfl, (((((Pg.refl p291.z).st p297 rfl).st p301 rfl).tr pg340 rfl).st p345 rfl), (orF hb293 s346)⟩
          · have s347 := bv s292 hb293
            refine s1k p291.z rfl (yd p291.z rfl rfl s347) rfl fun a348 p349 s350 => ?_
            have s351 := p349.o s347 rfl
            refine s1k p349.z rfl (yd p349.z rfl rfl s351) rfl fun a352 p353 s354 => ?_
            refine s1k p353.z rfl (ydU p353.z rfl rfl s354) rfl fun a355 p356 s357 => ?_
            have s358 := p356.o s354 rfl
            refine s1k p356.z rfl (ydU p356.z rfl rfl s358) rfl fun a359 p360 s361 => ?_
            have s362 := p360.o s358 rfl
            refine s1k p360.z rfl (ydU p360.z rfl rfl s362) rfl fun a363 p364 s365 => ?_
            have s366 := p364.o (p360.o (p356.o (p353.o s351 rfl) rfl) rfl) rfl
            refine s1k p364.z rfl (yd p364.z rfl rfl s366) rfl fun a367 p368 s369 => ?_
            have s370 := p368.o (p364.o (p360.o (p356.o (p353.o (p349.o (p291.o s289 rfl) rfl) rfl) rfl) rfl) rfl) rfl
            have s371 := p368.o s366 rfl
            refine s1g p368.z (okPickT s371 cst) rfl (yd p368.z rfl rfl s370) fun a372 p373 s374 => ?_
            exact rN ⟨rfl, rfl, ((((((((Pg.refl p291.z).st p349 rfl).st p353 rfl).st p356 rfl).st p360 rfl).st p364 rfl).st p368 rfl).st p373 rfl), (orT hb293 s374)⟩
        rintro a375 ⟨pg376, s377⟩
        have s378 := pg376.o (p291.o s289 rfl) rfl
        refine s1 pg376.z (okPickT s378 s377) rfl fun a379 p380 s381 => ?_
        exact rN ⟨rfl, rfl, (((((((((Pg.refl p177.z).st p244 rfl).st p248 rfl).st p252 rfl).st p256 rfl).tr pg287 rfl).st p291 rfl).tr pg376 rfl).st p380 rfl), (andT hb179 s381)⟩
    rintro a382 ⟨pg383, s384⟩
    refine s1 pg383.z (okAs s384) rfl fun a385 p386 s387 => ?_
    refine rN (thenN ?_)
    refine wp_seq ?_
    refine reg ?_
    have s388 := p386.o (pg383.o (p177.o (p174.o (p171.o (pg167.o s141 rfl) rfl) rfl) rfl) rfl) rfl
    refine s1 p386.z (okMv s388) rfl fun a389 p390 s391 => ?_
    have s392 := p390.o (p386.o (pg383.o (p177.o (p174.o (p171.o (pg167.o s142 rfl) rfl) rfl) rfl) rfl) rfl) rfl
    refine s1 p390.z (okFA (o' := 2) fo25_2 s392 rfl) rfl fun a393 p394 s395 => ?_
    have s396 := p394.o s391 rfl
    refine lS (oSto (cs := [.int .i64 x1]) (l' := TThing.C ({ x0 with owner := x1 }) h0_0) p394.z s395 s396 m149 Try.sizeOf3 rfl one1 rfl rfl fun w397 m398 g399 => ?_)
    have cx400 := cx152.st g399 f9
    refine rN (thenN ?_)
    refine wp_seq ?_
    refine reg ?_
    have s401 := p394.o s392 rfl
    refine s1 p394.z (okFA (o' := 3) fo25_3 s401 rfl) rfl fun a402 p403 s404 => ?_
    refine s1 p403.z (okLd (j := 3) na3 s404 (m398.cl) rfl rfl) rfl fun a405 p406 s407 => ?_
    refine s1 p406.z (okAdd s407 cst) rfl fun a408 p409 s410 => ?_
    have s411 := p409.o (p406.o (p403.o s401 rfl) rfl) rfl
    refine s1 p409.z (okFA (o' := 3) fo25_3 s411 rfl) rfl fun a412 p413 s414 => ?_
    have s415 := p413.o s410 rfl
    refine lS (oSto (cs := [.int .i64 (w64 (x0.holds + 1))]) (l' := TThing.C ({ x0 with owner := x1, holds := w64 (x0.holds + 1) }) h0_0) p413.z s414 s415 m398 Try.sizeOf3 rfl one1 rfl rfl fun w416 m417 g418 => ?_)
    have cx419 := cx400.st g418 f9
    refine rN (thenN ?_)
    refine wp_seq ?_
    refine reg ?_
    have s420 := p413.o s411 rfl
    refine s1 p413.z (okLdA ag25 s420 (m417.cl) rfl rfl whole) rfl fun a421 p422 s423 => ?_
    have s424 := p422.o (p413.o (p409.o (p406.o (p403.o (p394.o (p390.o s387 rfl) rfl) rfl) rfl) rfl) rfl) rfl
    refine s1 p422.z (okMv s424) rfl fun a425 p426 s427 => ?_
    have s428 := p426.o (p422.o (p413.o (p409.o (p406.o (p403.o (p394.o (p390.o (p386.o (pg383.o (p177.o (p174.o (p171.o (pg167.o s144 rfl) rfl) rfl) rfl) rfl) rfl) rfl) rfl) rfl) rfl) rfl) rfl) rfl) rfl
    have s429 := p426.o s423 rfl
    have m430 := (m151.g1 g399 (m27.ne e26).symm).g1 g418 (m27.ne e26).symm
    have q431 := qh0_0.mono ((((((g6.tA (Nat.le_of_eq e7.symm)).trans (g16.tA (Nat.le_of_eq e17.symm))).trans (g25.tA (Nat.le_of_eq e26.symm))).trans t153).trans (g399.t1 (.tail _ (.tail _ (.head _))))).trans (g418.t1 (.tail _ (.tail _ (.head _)))))
    refine lS (oStoW (cs := TThing.C ({ x0 with owner := x1, holds := w64 (x0.holds + 1) }) h0_0) p426.z s428 s429 m430 Try.sizeOf25 rfl (TThing.C_one _ q431.one) rfl fun w432 m433 g434 => ?_)
    have cx435 := cx419.st g434 f29
    refine s1 p426.z (okAs s427) rfl fun a436 p437 s438 => ?_
    refine rN (thenN ?_)
    have s439 := p437.o s428 rfl
    obtain rfl := Option.some.inj h
    have q440 := q431.mono (g434.t1 (.head _))
    exact wp_ret (blkR (thenR (ret2 p437.z Try.results24 (rvA ag25 s439 m433 rfl) (rvT s438) ⟨_, rfl, h0_0, rfl, (q440.mono ((Tr.refl _ _).sub (fun i h => (.tail _ (.tail _ (.tail _ h)))))), cx435.g⟩)))
  replace h := (ifN hb168).symm.trans h
  refine wp_seq ?_
  refine reg ?_
  refine s1 pg167.z (okEq s166 cst) rfl fun a441 p442 s443 => ?_
  refine s1 p442.z (okAs s443) rfl fun a444 p445 s446 => ?_
  refine rN (thenN ?_)
  refine cnd s446 (fun hb447 => ?_) (fun hb447 => ?_)
  · replace h := (ifP hb447).symm.trans h
    refine wp_seq ?_
    refine reg ?_
    have s448 := p445.o (p442.o (pg167.o s142 rfl) rfl) rfl
    refine s1 p445.z (okLdA ag25 s448 (m149.cl) rfl rfl whole) rfl fun a449 p450 s451 => ?_
    have q452 := qh0_0.mono ((((g6.tA (Nat.le_of_eq e7.symm)).trans (g16.tA (Nat.le_of_eq e17.symm))).trans (g25.tA (Nat.le_of_eq e26.symm))).trans t153)
    obtain ⟨t453, ht454, h⟩ := Option.bind_eq_some_iff.1 h
    refine lS (oCall p450.z Try.call31 (ag1 s451) (c31 (b22 :: b13 :: b3 :: L) w139 cx152.lt _ _ q452 _ ht454) rfl fun v458 a455 w456 hp459 p457 sp457 => ?_)
    obtain ⟨h460, rfl, q461, g462⟩ := hp459
    have cx463 := cx152.ca g462
    have s464 := p457.o (p450.o (p445.o (p442.o (pg167.o s147 rfl) rfl) rfl) rfl) rfl
    refine s1 p457.z (okMv s464) rfl fun a465 p466 s467 => ?_
    refine s1 p466.z (okMv s467) rfl fun a468 p469 s470 => ?_
    refine cutP 3 (fun a' => Pg Try.f24.ntmps [57, 58, 59] a468 a' ∧ a'.eval (.tmp 59) = .bool ((x0.owner == x1) && (x2.value == 0))) ?_ ?_
    · rcases bf (x0.owner == x1) with hb471 | hb471
      · have s472 := bv s470 hb471
        refine s1k p469.z rfl (yd p469.z rfl rfl s472) rfl fun a473 p474 s475 => ?_
        have s476 := p474.o s472 rfl
        refine s1k p474.z rfl (yd p474.z rfl rfl s476) rfl fun a477 p478 s479 => ?_
        have s480 := p478.o s476 rfl
        refine s1 p478.z (okPickF s480 cst) rfl fun a481 p482 s483 => ?_
        exact rN ⟨rfl, rfl, ((((Pg.refl p469.z).st p474 rfl).st p478 rfl).st p482 rfl), (andF hb471 s483)⟩
      · have s484 := bv s470 hb471
        have s485 := p469.o (p466.o (p457.o (p450.o (p445.o (p442.o (pg167.o s146 rfl) rfl) rfl) rfl) rfl) rfl) rfl
        refine s1g p469.z (okMv s485) rfl (yd p469.z rfl rfl s484) fun a486 p487 s488 => ?_
        have s489 := p487.o s484 rfl
        refine s1g p487.z (okEq s488 cst) rfl (yd p487.z rfl rfl s489) fun a490 p491 s492 => ?_
        have s493 := p491.o s489 rfl
        refine s1 p491.z (okPickT s493 s492) rfl fun a494 p495 s496 => ?_
        exact rN ⟨rfl, rfl, ((((Pg.refl p469.z).st p487 rfl).st p491 rfl).st p495 rfl), (andT hb471 s496)⟩
    rintro a497 ⟨pg498, s499⟩
    have s500 := pg498.o (p469.o (p466.o (p457.o (p450.o (p445.o (p442.o (pg167.o s144 rfl) rfl) rfl) rfl) rfl) rfl) rfl) rfl
    have s501 := pg498.o (p469.o (p466.o sp457 rfl) rfl) rfl
    have m502 := m151.g0 g462
    refine lS (oStoW (cs := TThing.C t453 h460) pg498.z s500 s501 m502 Try.sizeOf25 rfl (TThing.C_one _ q461.one) rfl fun w503 m504 g505 => ?_)
    have cx506 := cx463.st g505 f29
    refine s1 pg498.z (okAs s499) rfl fun a507 p508 s509 => ?_
    refine rN (thenN ?_)
    have s510 := p508.o s500 rfl
    obtain rfl := Option.some.inj h
    have q511 := q461.mono (g505.t1 (.head _))
    exact wp_ret (blkR (thenR (ret2 p508.z Try.results24 (rvA ag25 s510 m504 rfl) (rvT s509) ⟨_, rfl, h460, rfl, (q511.mono ((Tr.refl _ _).sub (fun i h => (.tail _ (.tail _ (.tail _ h)))))), cx506.g⟩)))
  replace h := (ifN hb447).symm.trans h
  refine wp_seq ?_
  refine reg ?_
  have s512 := p445.o (p442.o s166 rfl) rfl
  refine s1 p445.z (okEq s512 cst) rfl fun a513 p514 s515 => ?_
  refine s1 p514.z (okAs s515) rfl fun a516 p517 s518 => ?_
  refine rN (thenN ?_)
  have s519 := p517.o (p514.o s512 rfl) rfl
  have pg520 : Pg _ [51, 52, 60, 61] _ _ := (((((Pg.refl pg167.z).st p442 rfl).st p445 rfl).st p514 rfl).st p517 rfl)
  refine cnd s518 (fun hb521 => ?_) (fun hb521 => ?_)
  · replace h := (ifP hb521).symm.trans h
    refine wp_seq ?_
    refine reg ?_
    have s522 := pg520.o (pg167.o s141 rfl) rfl
    refine s1 pg520.z (okMv s522) rfl fun a523 p524 s525 => ?_
    have s526 := p524.o (pg520.o (pg167.o s142 rfl) rfl) rfl
    refine s1 p524.z (okFA (o' := 4) fo25_4 s526 rfl) rfl fun a527 p528 s529 => ?_
    have s530 := p528.o s525 rfl
    by_cases hi531 : 0 ≤ x1 ∧ x1 < 8
    case neg => rw [if_neg hi531] at h; cases h
    replace h := (if_pos hi531).symm.trans h
    refine s1 p528.z (okIA Try.underlying22 Try.sizeOf3 s529 s530 hi531) rfl fun a532 p533 s534 => ?_
    refine s1 p533.z (okLd (j := 4 + x1.toNat) na3 s534 (m149.cl) (Nat.zero_add _) (TThing.C_reads_get _ _ hi531)) rfl fun a535 p536 s537 => ?_
    refine s1 p536.z (okAdd s537 cst) rfl fun a538 p539 s540 => ?_
    have s541 := p539.o (p536.o (p533.o (p528.o s526 rfl) rfl) rfl) rfl
    refine s1 p539.z (okFA (o' := 4) fo25_4 s541 rfl) rfl fun a542 p543 s544 => ?_
    have s545 := p543.o (p539.o (p536.o (p533.o s530 rfl) rfl) rfl) rfl
    by_cases hi546 : 0 ≤ x1 ∧ x1 < 8
    case neg => rw [if_neg hi546] at h; cases h
    replace h := (if_pos hi546).symm.trans h
    refine s1 p543.z (okIA Try.underlying22 Try.sizeOf3 s544 s545 hi546) rfl fun a547 p548 s549 => ?_
    have s550 := p548.o (p543.o s540 rfl) rfl
    refine lS (oSto (cs := [.int .i64 (w64 ((x0.reads.get x1) + 1))]) (l' := TThing.C ({ x0 with reads := x0.reads.set x1 (w64 ((x0.reads.get x1) + 1)) }) h0_0) p548.z s549 s550 m149 Try.sizeOf3 rfl one1 (ble (by have := hi546; show 4 + _ + 1 ≤ 15; omega)) (TThing.C_reads_set _ _ hi546 _) fun w551 m552 g553 => ?_)
    have cx554 := cx152.st g553 f9
    refine rN (thenN ?_)
    refine wp_seq ?_
    refine reg ?_
    have s555 := p548.o (p543.o s541 rfl) rfl
    refine s1 p548.z (okLdA ag25 s555 (m552.cl) rfl rfl whole) rfl fun a556 p557 s558 => ?_
    have s559 := p557.o (p548.o (p543.o (p539.o (p536.o (p533.o (p528.o (p524.o (pg520.o (pg167.o s146 rfl) rfl) rfl) rfl) rfl) rfl) rfl) rfl) rfl) rfl
    refine s1 p557.z (okMv s559) rfl fun a560 p561 s562 => ?_
    refine s1 p561.z (okEq s562 cst) rfl fun a563 p564 s565 => ?_
    refine s1 p564.z (okMv s565) rfl fun a566 p567 s568 => ?_
    refine cutP 7 (fun a' => Pg Try.f24.ntmps [73, 74, 75, 76, 77, 78, 79] a566 a' ∧ a'.eval (.tmp 79) = .bool ((x2.value == 0) && ((x0.owner == (-1)) || (x0.owner == x1)))) ?_ ?_
    · rcases bf (x2.value == 0) with hb569 | hb569
      · have s570 := bv s568 hb569
        refine s1k p567.z rfl (yd p567.z rfl rfl s570) rfl fun a571 p572 s573 => ?_
        have s574 := p572.o s570 rfl
        refine s1k p572.z rfl (yd p572.z rfl rfl s574) rfl fun a575 p576 s577 => ?_
        have s578 := p576.o s574 rfl
        refine s1k p576.z rfl (yd p576.z rfl rfl s578) rfl fun a579 p580 s581 => ?_
        have s582 := p580.o s578 rfl
        refine s1k p580.z rfl (yd p580.z rfl rfl s582) rfl fun a583 p584 s585 => ?_
        refine s1k p584.z rfl (ydU p584.z rfl rfl s585) rfl fun a586 p587 s588 => ?_
        have s589 := p587.o (p584.o s582 rfl) rfl
        refine s1k p587.z rfl (yd p587.z rfl rfl s589) rfl fun a590 p591 s592 => ?_
        have s593 := p591.o s589 rfl
        refine s1 p591.z (okPickF s593 cst) rfl fun a594 p595 s596 => ?_
        exact rN ⟨rfl, rfl, ((((((((Pg.refl p567.z).st p572 rfl).st p576 rfl).st p580 rfl).st p584 rfl).st p587 rfl).st p591 rfl).st p595 rfl), (andF hb569 s596)⟩
      · have s597 := bv s568 hb569
        have s598 := p567.o (p564.o (p561.o (p557.o s555 rfl) rfl) rfl) rfl
        refine s1g p567.z (okFA (o' := 2) fo25_2 s598 rfl) rfl (yd p567.z rfl rfl s597) fun a599 p600 s601 => ?_
        have s602 := p600.o s597 rfl
        refine s1g p600.z (okLd (j := 2) na3 s601 (m552.cl) rfl rfl) rfl (yd p600.z rfl rfl s602) fun a603 p604 s605 => ?_
        have s606 := p604.o s602 rfl
        refine s1g p604.z (okEq s605 cst) rfl (yd p604.z rfl rfl s606) fun a607 p608 s609 => ?_
        have s610 := p608.o s606 rfl
        refine s1g p608.z (okMv s609) rfl (yd p608.z rfl rfl s610) fun a611 p612 s613 => ?_
        refine cutP 2 (fun a' => Pg Try.f24.ntmps [77, 78] a611 a' ∧ a'.eval (.tmp 78) = .bool ((x0.owner == (-1)) || (x0.owner == x1))) ?_ ?_
        · rcases bf (x0.owner == (-1)) with hb614 | hb614
          · have s615 := bv s613 hb614
            have s616 := p612.o (p608.o (p604.o (p600.o (p567.o (p564.o (p561.o (p557.o (p548.o (p543.o (p539.o (p536.o (p533.o (p528.o (p524.o (pg520.o (pg167.o s147 rfl) rfl) rfl) rfl) rfl) rfl) rfl) rfl) rfl) rfl) rfl) rfl) rfl) rfl) rfl) rfl) rfl
            refine s1g p612.z (okMv s616) rfl (yd p612.z rfl rfl s615) fun a617 p618 s619 => ?_
            have s620 := p618.o (p612.o s610 rfl) rfl
            have s621 := p618.o s615 rfl
            refine s1g p618.z (okPickF s621 s619) rfl (yd p618.z rfl rfl s620) fun a622 p623 s624 => ?_
            exact rN ⟨rfl, rfl, (((Pg.refl p612.z).st p618 rfl).st p623 rfl), (orF hb614 s624)⟩
          · have s625 := bv s613 hb614
            refine s1k p612.z rfl (yd p612.z rfl rfl s625) rfl fun a626 p627 s628 => ?_
            have s629 := p627.o (p612.o s610 rfl) rfl
            have s630 := p627.o s625 rfl
            refine s1g p627.z (okPickT s630 cst) rfl (yd p627.z rfl rfl s629) fun a631 p632 s633 => ?_
            exact rN ⟨rfl, rfl, (((Pg.refl p612.z).st p627 rfl).st p632 rfl), (orT hb614 s633)⟩
        rintro a634 ⟨pg635, s636⟩
        have s637 := pg635.o (p612.o s610 rfl) rfl
        refine s1 pg635.z (okPickT s637 s636) rfl fun a638 p639 s640 => ?_
        exact rN ⟨rfl, rfl, (((((((Pg.refl p567.z).st p600 rfl).st p604 rfl).st p608 rfl).st p612 rfl).tr pg635 rfl).st p639 rfl), (andT hb569 s640)⟩
    rintro a641 ⟨pg642, s643⟩
    refine s1 pg642.z (okMv s643) rfl fun a644 p645 s646 => ?_
    refine cutP 3 (fun a' => Pg Try.f24.ntmps [81, 82, 83] a644 a' ∧ a'.eval (.tmp 83) = .bool (((x2.value == 0) && ((x0.owner == (-1)) || (x0.owner == x1))) && (decide (t62 < 1000)))) ?_ ?_
    · rcases bf ((x2.value == 0) && ((x0.owner == (-1)) || (x0.owner == x1))) with hb647 | hb647
      · have s648 := bv s646 hb647
        refine s1k p645.z rfl (yd p645.z rfl rfl s648) rfl fun a649 p650 s651 => ?_
        have s652 := p650.o s648 rfl
        refine s1k p650.z rfl (yd p650.z rfl rfl s652) rfl fun a653 p654 s655 => ?_
        have s656 := p654.o s652 rfl
        refine s1 p654.z (okPickF s656 cst) rfl fun a657 p658 s659 => ?_
        exact rN ⟨rfl, rfl, ((((Pg.refl p645.z).st p650 rfl).st p654 rfl).st p658 rfl), (andF hb647 s659)⟩
      · have s660 := bv s646 hb647
        have s661 := p645.o (pg642.o (p567.o (p564.o (p561.o (p557.o (p548.o (p543.o (p539.o (p536.o (p533.o (p528.o (p524.o (pg520.o (pg167.o s148 rfl) rfl) rfl) rfl) rfl) rfl) rfl) rfl) rfl) rfl) rfl) rfl) rfl) rfl) rfl
        refine s1g p645.z (okMv s661) rfl (yd p645.z rfl rfl s660) fun a662 p663 s664 => ?_
        have s665 := p663.o s660 rfl
        refine s1g p663.z (okLt s664 cst) rfl (yd p663.z rfl rfl s665) fun a666 p667 s668 => ?_
        have s669 := p667.o s665 rfl
        refine s1 p667.z (okPickT s669 s668) rfl fun a670 p671 s672 => ?_
        exact rN ⟨rfl, rfl, ((((Pg.refl p645.z).st p663 rfl).st p667 rfl).st p671 rfl), (andT hb647 s672)⟩
    rintro a673 ⟨pg674, s675⟩
    have s676 := pg674.o (p645.o (pg642.o (p567.o (p564.o (p561.o (p557.o (p548.o (p543.o (p539.o (p536.o (p533.o (p528.o (p524.o (pg520.o (pg167.o s144 rfl) rfl) rfl) rfl) rfl) rfl) rfl) rfl) rfl) rfl) rfl) rfl) rfl) rfl) rfl) rfl
    have s677 := pg674.o (p645.o (pg642.o (p567.o (p564.o (p561.o s558 rfl) rfl) rfl) rfl) rfl) rfl
    have m678 := m151.g1 g553 (m27.ne e26).symm
    have q679 := qh0_0.mono (((((g6.tA (Nat.le_of_eq e7.symm)).trans (g16.tA (Nat.le_of_eq e17.symm))).trans (g25.tA (Nat.le_of_eq e26.symm))).trans t153).trans (g553.t1 (.tail _ (.tail _ (.head _)))))
    refine lS (oStoW (cs := TThing.C ({ x0 with reads := x0.reads.set x1 (w64 ((x0.reads.get x1) + 1)) }) h0_0) pg674.z s676 s677 m678 Try.sizeOf25 rfl (TThing.C_one _ q679.one) rfl fun w680 m681 g682 => ?_)
    have cx683 := cx554.st g682 f29
    refine s1 pg674.z (okAs s675) rfl fun a684 p685 s686 => ?_
    refine rN (thenN ?_)
    have s687 := p685.o s676 rfl
    obtain rfl := Option.some.inj h
    have q688 := q679.mono (g682.t1 (.head _))
    exact wp_ret (blkR (thenR (ret2 p685.z Try.results24 (rvA ag25 s687 m681 rfl) (rvT s686) ⟨_, rfl, h0_0, rfl, (q688.mono ((Tr.refl _ _).sub (fun i h => (.tail _ (.tail _ (.tail _ h)))))), cx683.g⟩)))
  replace h := (ifN hb521).symm.trans h
  refine wp_seq ?_
  refine reg ?_
  refine s1 pg520.z (okEq s519 cst) rfl fun a689 p690 s691 => ?_
  refine s1 p690.z (okAs s691) rfl fun a692 p693 s694 => ?_
  refine rN (thenN ?_)
  refine cnd s694 (fun hb695 => ?_) (fun hb695 => ?_)
  · replace h := (ifP hb695).symm.trans h
    refine wp_seq ?_
    refine reg ?_
    have s696 := p693.o (p690.o (pg520.o (pg167.o s141 rfl) rfl) rfl) rfl
    refine s1 p693.z (okMv s696) rfl fun a697 p698 s699 => ?_
    have s700 := p698.o (p693.o (p690.o (pg520.o (pg167.o s142 rfl) rfl) rfl) rfl) rfl
    refine s1 p698.z (okFA (o' := 4) fo25_4 s700 rfl) rfl fun a701 p702 s703 => ?_
    have s704 := p702.o s699 rfl
    by_cases hi705 : 0 ≤ x1 ∧ x1 < 8
    case neg => rw [if_neg hi705] at h; cases h
    replace h := (if_pos hi705).symm.trans h
    refine s1 p702.z (okIA Try.underlying22 Try.sizeOf3 s703 s704 hi705) rfl fun a706 p707 s708 => ?_
    refine s1 p707.z (okLd (j := 4 + x1.toNat) na3 s708 (m149.cl) (Nat.zero_add _) (TThing.C_reads_get _ _ hi705)) rfl fun a709 p710 s711 => ?_
    refine s1 p710.z (okSub s711 cst) rfl fun a712 p713 s714 => ?_
    have s715 := p713.o (p710.o (p707.o (p702.o s700 rfl) rfl) rfl) rfl
    refine s1 p713.z (okFA (o' := 4) fo25_4 s715 rfl) rfl fun a716 p717 s718 => ?_
    have s719 := p717.o (p713.o (p710.o (p707.o s704 rfl) rfl) rfl) rfl
    by_cases hi720 : 0 ≤ x1 ∧ x1 < 8
    case neg => rw [if_neg hi720] at h; cases h
    replace h := (if_pos hi720).symm.trans h
    refine s1 p717.z (okIA Try.underlying22 Try.sizeOf3 s718 s719 hi720) rfl fun a721 p722 s723 => ?_
    have s724 := p722.o (p717.o s714 rfl) rfl
    refine lS (oSto (cs := [.int .i64 (w64 ((x0.reads.get x1) - 1))]) (l' := TThing.C ({ x0 with reads := x0.reads.set x1 (w64 ((x0.reads.get x1) - 1)) }) h0_0) p722.z s723 s724 m149 Try.sizeOf3 rfl one1 (ble (by have := hi720; show 4 + _ + 1 ≤ 15; omega)) (TThing.C_reads_set _ _ hi720 _) fun w725 m726 g727 => ?_)
    have cx728 := cx152.st g727 f9
    refine rN (thenN ?_)
    refine wp_seq ?_
    obtain ⟨b743, hb744, h⟩ := Option.bind_eq_some_iff.1 h
    have s812 := p722.o (p717.o s715 rfl) rfl
    have s813 := p722.o (p717.o (p713.o (p710.o (p707.o (p702.o (p698.o (p693.o (p690.o (pg520.o (pg167.o s144 rfl) rfl) rfl) rfl) rfl) rfl) rfl) rfl) rfl) rfl) rfl
    have m814 := m150.g1 g727 (m5.ne e17).symm
    have m815 := m151.g1 g727 (m27.ne e26).symm
    refine regJ (fun a' w' => Z Try.f24.ntmps a' ∧ a'.eval (.tmp 3) = ptr b3 0 ∧ a'.eval (.tmp 6) = ptr b22 0 ∧ a'.eval (.tmp 7) = .bool b743 ∧ Bk w' b3 (TThing.C ({ x0 with reads := x0.reads.set x1 (w64 ((x0.reads.get x1) - 1)) }) h0_0) 25 ∧ Bk w' b13 (TNote.C x2) 29 ∧ Bk w' b22 (TThing.C ({ x0 with reads := x0.reads.set x1 (w64 ((x0.reads.get x1) - 1)) }) h0_0) 25 ∧ Cx [] w (b22 :: b13 :: b3 :: L) w' ∧ Tr (b22 :: b13 :: b3 :: L) w725 (b22 :: b13 :: b3 :: L) w') ?_ ?_
    · refine regH (n := 12) [(0, fun w' => Cl w' b3 0 (TThing.C ({ x0 with reads := x0.reads.set x1 (w64 ((x0.reads.get x1) - 1)) }) h0_0)), (7, fun w' => Cl w' b3 (4 + x1.toNat) [.int .i64 ((x0.reads.set x1 (w64 ((x0.reads.get x1) - 1))).get x1)])] mixed rfl ?_
      have g816 := G.drew w725
      have cx817 := cx728.ca g816
      have m818 := m726.g0 g816
      refine hTakeW (i := 0) rfl (by kernel_rfl) (by kernel_rfl) (by kernel_rfl) nrm (.inr (.head _)) p722.z (wN rfl) (fun _ h => okLdA ag25 s812 h rfl rfl whole) (m818.clp rfl) rfl fun a819 p820 sp820 => ?_
      have s821 := p820.o (p722.o (p717.o (p713.o (p710.o (p707.o (p702.o (p698.o (p693.o (p690.o (pg520.o (pg167.o s146 rfl) rfl) rfl) rfl) rfl) rfl) rfl) rfl) rfl) rfl) rfl) rfl
      refine hTakeW (i := 1) rfl (by kernel_rfl) (by kernel_rfl) (by kernel_rfl) nrm (cond := fun _ => True) (.inl fun _ => trivial) p820.z (wN rfl) (fun _ _ => okMv s821) trivial rfl fun a822 p823 sp823 => ?_
      refine hTakeW (i := 2) rfl (by kernel_rfl) (by kernel_rfl) (by kernel_rfl) nrm (cond := fun _ => True) (.inl fun _ => trivial) p823.z (wN rfl) (fun _ _ => okEq sp823 cst) trivial rfl fun a824 p825 sp825 => ?_
      refine hTakeW (i := 3) rfl (by kernel_rfl) (by kernel_rfl) (by kernel_rfl) nrm (cond := fun _ => True) (.inl fun _ => trivial) p825.z (wN rfl) (fun _ _ => okMv sp825) trivial rfl fun a826 p827 sp827 => ?_
      rcases bf (x2.value == 0) with hb828 | hb828
      · have s829 := bv sp827 hb828
        replace h := (ifN hb828).symm.trans hb744
        refine hSkip (i := 4) rfl (by kernel_rfl) (by kernel_rfl) (by kernel_rfl) nrm rfl p827.z (yd p827.z rfl rfl s829) rfl rfl fun a831 p832 sp832 => ?_
        have s833 := p832.o s829 rfl
        refine hSkip (i := 5) rfl (by kernel_rfl) (by kernel_rfl) (by kernel_rfl) nrm rfl p832.z (yd p832.z rfl rfl s833) rfl rfl fun a834 p835 sp835 => ?_
        have s836 := p835.o s833 rfl
        refine hSkip (i := 6) rfl (by kernel_rfl) (by kernel_rfl) (by kernel_rfl) nrm rfl p835.z (yd p835.z rfl rfl s836) rfl rfl fun a837 p838 sp838 => ?_
        have s839 := p838.o s836 rfl
        refine hSkip (i := 7) rfl (by kernel_rfl) (by kernel_rfl) (by kernel_rfl) nrm rfl p838.z (yd p838.z rfl rfl s839) rfl rfl fun a840 p841 sp841 => ?_
        have s842 := p841.o s839 rfl
        refine hSkip (i := 8) rfl (by kernel_rfl) (by kernel_rfl) (by kernel_rfl) nrm rfl p841.z (yd p841.z rfl rfl s842) rfl rfl fun a843 p844 sp844 => ?_
        have s845 := p844.o s842 rfl
        refine hTakeW (i := 9) rfl (by kernel_rfl) (by kernel_rfl) (by kernel_rfl) nrm (cond := fun _ => True) (.inl fun _ => trivial) p844.z (wN rfl) (fun _ _ => okPickF s845 cst) trivial rfl fun a846 p847 sp847 => ?_
        obtain rfl := Option.some.inj h
        have s848 := p847.o (p844.o (p841.o (p838.o (p835.o (p832.o (p827.o (p825.o (p823.o (p820.o s813 rfl) rfl) rfl) rfl) rfl) rfl) rfl) rfl) rfl) rfl
        have s849 := p847.o (p844.o (p841.o (p838.o (p835.o (p832.o (p827.o (p825.o (p823.o sp820 rfl) rfl) rfl) rfl) rfl) rfl) rfl) rfl) rfl
        have m850 := m815.g0 g816
        have q851 := qh0_0.mono ((((((g6.tA (Nat.le_of_eq e7.symm)).trans (g16.tA (Nat.le_of_eq e17.symm))).trans (g25.tA (Nat.le_of_eq e26.symm))).trans t153).trans (g727.t1 (.tail _ (.tail _ (.head _))))).trans g816.t0)
        refine hOne (i := 10) (by kernel_rfl) rfl (oStoW (cs := TThing.C ({ x0 with reads := x0.reads.set x1 (w64 ((x0.reads.get x1) - 1)) }) h0_0) p847.z s848 s849 m850 Try.sizeOf25 rfl (TThing.C_one _ q851.one) rfl fun w852 m853 g854 => ?_)
        have cx855 := cx817.st g854 f29
        refine ⟨⟨.inl rfl, .inr fun h => h.g1 g854 (m27.ne e26), trivial⟩, ?_⟩
        refine hTakeW (i := 11) rfl (by kernel_rfl) (by kernel_rfl) (by kernel_rfl) nrm (cond := fun _ => True) (.inl fun _ => trivial) p847.z (wN rfl) (fun _ _ => okAs sp847) trivial rfl fun a856 p857 sp857 => ?_
        have s858 := p857.o (p847.o (p844.o (p841.o (p838.o (p835.o (p832.o (p827.o (p825.o (p823.o (p820.o s812 rfl) rfl) rfl) rfl) rfl) rfl) rfl) rfl) rfl) rfl) rfl
        have s859 := p857.o s848 rfl
        have m860 := m818.g1 g854 (m27.ne e26)
        have m861 := (m814.g0 g816).g1 g854 (m15.ne e26)
        exact hDone (by kernel_rfl) ⟨rfl, p857.z, s858, s859, sp857, m860, m861, m853, cx855, (g816.t0.trans (g854.t1 (.head _)))⟩
      · have s862 := bv sp827 hb828
        replace h := (ifP hb828).symm.trans hb744
        have s864 := p827.o (p825.o (p823.o (p820.o (p722.o (p717.o (p713.o (p710.o (p707.o (p702.o (p698.o s696 rfl) rfl) rfl) rfl) rfl) rfl) rfl) rfl) rfl) rfl) rfl
        refine hTakeW (i := 4) rfl (by kernel_rfl) (by kernel_rfl) (by kernel_rfl) nrm (cond := fun _ => True) (.inl fun _ => trivial) p827.z (wG rfl (yd p827.z rfl rfl s862)) (fun _ _ => okMv s864) trivial rfl fun a865 p866 sp866 => ?_
        have s867 := p866.o s862 rfl
        have s868 := p866.o (p827.o (p825.o (p823.o (p820.o s812 rfl) rfl) rfl) rfl) rfl
        refine hTakeW (i := 5) rfl (by kernel_rfl) (by kernel_rfl) (by kernel_rfl) nrm (cond := fun _ => True) (.inl fun _ => trivial) p866.z (wG rfl (yd p866.z rfl rfl s867)) (fun _ _ => okFA (o' := 4) fo25_4 s868 rfl) trivial rfl fun a869 p870 sp870 => ?_
        have s871 := p870.o s867 rfl
        have s872 := p870.o sp866 rfl
        by_cases hi873 : 0 ≤ x1 ∧ x1 < 8
        case neg => rw [if_neg hi873] at h; cases h
        replace h := (if_pos hi873).symm.trans h
        refine hTakeW (i := 6) rfl (by kernel_rfl) (by kernel_rfl) (by kernel_rfl) nrm (cond := fun _ => True) (.inl fun _ => trivial) p870.z (wG rfl (yd p870.z rfl rfl s871)) (fun _ _ => okIA Try.underlying22 Try.sizeOf3 sp870 s872 hi873) trivial rfl fun a874 p875 sp875 => ?_
        have s876 := p875.o s871 rfl
        refine hTakeW (i := 7) rfl (by kernel_rfl) (by kernel_rfl) (by kernel_rfl) nrm (.inr (.tail _ (.head _))) p875.z (wG rfl (yd p875.z rfl rfl s876)) (fun _ h => okLd (j := 0) na3 sp875 h rfl rfl) (clD (TThing.C_reads_get _ _ hi873) m818.cl) rfl fun a877 p878 sp878 => ?_
        have s879 := p878.o s876 rfl
        refine hTakeW (i := 8) rfl (by kernel_rfl) (by kernel_rfl) (by kernel_rfl) nrm (cond := fun _ => True) (.inl fun _ => trivial) p878.z (wG rfl (yd p878.z rfl rfl s879)) (fun _ _ => okGe sp878 cst) trivial rfl fun a880 p881 sp881 => ?_
        have s882 := p881.o s879 rfl
        refine hTakeW (i := 9) rfl (by kernel_rfl) (by kernel_rfl) (by kernel_rfl) nrm (cond := fun _ => True) (.inl fun _ => trivial) p881.z (wN rfl) (fun _ _ => okPickT s882 sp881) trivial rfl fun a883 p884 sp884 => ?_
        obtain rfl := Option.some.inj h
        have s885 := p884.o (p881.o (p878.o (p875.o (p870.o (p866.o (p827.o (p825.o (p823.o (p820.o s813 rfl) rfl) rfl) rfl) rfl) rfl) rfl) rfl) rfl) rfl
        have s886 := p884.o (p881.o (p878.o (p875.o (p870.o (p866.o (p827.o (p825.o (p823.o sp820 rfl) rfl) rfl) rfl) rfl) rfl) rfl) rfl) rfl
        have m887 := m815.g0 g816
        have q888 := qh0_0.mono ((((((g6.tA (Nat.le_of_eq e7.symm)).trans (g16.tA (Nat.le_of_eq e17.symm))).trans (g25.tA (Nat.le_of_eq e26.symm))).trans t153).trans (g727.t1 (.tail _ (.tail _ (.head _))))).trans g816.t0)
        refine hOne (i := 10) (by kernel_rfl) rfl (oStoW (cs := TThing.C ({ x0 with reads := x0.reads.set x1 (w64 ((x0.reads.get x1) - 1)) }) h0_0) p884.z s885 s886 m887 Try.sizeOf25 rfl (TThing.C_one _ q888.one) rfl fun w889 m890 g891 => ?_)
        have cx892 := cx817.st g891 f29
        refine ⟨⟨.inl rfl, .inr fun h => h.g1 g891 (m27.ne e26), trivial⟩, ?_⟩
        refine hTakeW (i := 11) rfl (by kernel_rfl) (by kernel_rfl) (by kernel_rfl) nrm (cond := fun _ => True) (.inl fun _ => trivial) p884.z (wN rfl) (fun _ _ => okAs sp884) trivial rfl fun a893 p894 sp894 => ?_
        have s895 := p894.o (p884.o (p881.o (p878.o (p875.o (p870.o s868 rfl) rfl) rfl) rfl) rfl) rfl
        have s896 := p894.o s885 rfl
        have m897 := m818.g1 g891 (m27.ne e26)
        have m898 := (m814.g0 g816).g1 g891 (m15.ne e26)
        exact hDone (by kernel_rfl) ⟨rfl, p894.z, s895, s896, sp894, m897, m898, m890, cx892, (g816.t0.trans (g891.t1 (.head _)))⟩
    rintro a899 w900 ⟨z901, s902, s903, s904, m905, m906, m907, cx908, t909⟩
    refine thenN ?_
    obtain rfl := Option.some.inj h
    have q910 := qh0_0.mono ((((((g6.tA (Nat.le_of_eq e7.symm)).trans (g16.tA (Nat.le_of_eq e17.symm))).trans (g25.tA (Nat.le_of_eq e26.symm))).trans t153).trans (g727.t1 (.tail _ (.tail _ (.head _))))).trans t909)
    exact wp_ret (blkR (thenR (ret2 z901 Try.results24 (rvA ag25 s903 m907 rfl) (rvT s904) ⟨_, rfl, h0_0, rfl, (q910.mono ((Tr.refl _ _).sub (fun i h => (.tail _ (.tail _ (.tail _ h)))))), cx908.g⟩)))
  replace h := (ifN hb695).symm.trans h
  refine wp_seq ?_
  refine reg ?_
  have s911 := p693.o (p690.o s519 rfl) rfl
  refine s1 p693.z (okEq s911 cst) rfl fun a912 p913 s914 => ?_
  refine s1 p913.z (okAs s914) rfl fun a915 p916 s917 => ?_
  refine rN (thenN ?_)
  have s918 := p916.o (p913.o s911 rfl) rfl
  have pg919 : Pg _ [84, 85, 103, 104] _ _ := (((((Pg.refl pg520.z).st p690 rfl).st p693 rfl).st p913 rfl).st p916 rfl)
  refine cnd s917 (fun hb920 => ?_) (fun hb920 => ?_)
  · replace h := (ifP hb920).symm.trans h
    refine wp_seq ?_
    refine reg ?_
    have s921 := pg919.o (pg520.o (pg167.o s142 rfl) rfl) rfl
    refine s1 pg919.z (okLdA ag25 s921 (m149.cl) rfl rfl whole) rfl fun a922 p923 s924 => ?_
    have s925 := p923.o (pg919.o (pg520.o (pg167.o s146 rfl) rfl) rfl) rfl
    refine s1 p923.z (okMv s925) rfl fun a926 p927 s928 => ?_
    refine s1 p927.z (okEq s928 cst) rfl fun a929 p930 s931 => ?_
    refine s1 p930.z (okMv s931) rfl fun a932 p933 s934 => ?_
    refine cutP 3 (fun a' => Pg Try.f24.ntmps [109, 110, 111] a932 a' ∧ a'.eval (.tmp 111) = .bool ((x2.value == 0) && (!(x0.owner == x1)))) ?_ ?_
    · rcases bf (x2.value == 0) with hb935 | hb935
      · have s936 := bv s934 hb935
        refine s1k p933.z rfl (yd p933.z rfl rfl s936) rfl fun a937 p938 s939 => ?_
        have s940 := p938.o s936 rfl
        refine s1k p938.z rfl (yd p938.z rfl rfl s940) rfl fun a941 p942 s943 => ?_
        have s944 := p942.o s940 rfl
        refine s1 p942.z (okPickF s944 cst) rfl fun a945 p946 s947 => ?_
        exact rN ⟨rfl, rfl, ((((Pg.refl p933.z).st p938 rfl).st p942 rfl).st p946 rfl), (andF hb935 s947)⟩
      · have s948 := bv s934 hb935
        have s949 := p933.o (p930.o (p927.o (p923.o (pg919.o (pg520.o (pg167.o s147 rfl) rfl) rfl) rfl) rfl) rfl) rfl
        refine s1g p933.z (okMv s949) rfl (yd p933.z rfl rfl s948) fun a950 p951 s952 => ?_
        have s953 := p951.o s948 rfl
        refine s1g p951.z (okNot s952) rfl (yd p951.z rfl rfl s953) fun a954 p955 s956 => ?_
        have s957 := p955.o s953 rfl
        refine s1 p955.z (okPickT s957 s956) rfl fun a958 p959 s960 => ?_
        exact rN ⟨rfl, rfl, ((((Pg.refl p933.z).st p951 rfl).st p955 rfl).st p959 rfl), (andT hb935 s960)⟩
    rintro a961 ⟨pg962, s963⟩
    refine s1 pg962.z (okMv s963) rfl fun a964 p965 s966 => ?_
    refine cutP 8 (fun a' => Pg Try.f24.ntmps [113, 114, 115, 116, 117, 118, 119, 120] a964 a' ∧ a'.eval (.tmp 120) = .bool (((x2.value == 0) && (!(x0.owner == x1))) && ((x0.owner != (-1)) || (decide (0 < t62))))) ?_ ?_
    · rcases bf ((x2.value == 0) && (!(x0.owner == x1))) with hb967 | hb967
      · have s968 := bv s966 hb967
        refine s1k p965.z rfl (yd p965.z rfl rfl s968) rfl fun a969 p970 s971 => ?_
        have s972 := p970.o s968 rfl
        refine s1k p970.z rfl (yd p970.z rfl rfl s972) rfl fun a973 p974 s975 => ?_
        have s976 := p974.o s972 rfl
        refine s1k p974.z rfl (yd p974.z rfl rfl s976) rfl fun a977 p978 s979 => ?_
        have s980 := p978.o s976 rfl
        refine s1k p978.z rfl (yd p978.z rfl rfl s980) rfl fun a981 p982 s983 => ?_
        refine s1k p982.z rfl (ydU p982.z rfl rfl s983) rfl fun a984 p985 s986 => ?_
        have s987 := p985.o s983 rfl
        refine s1k p985.z rfl (ydU p985.z rfl rfl s987) rfl fun a988 p989 s990 => ?_
        have s991 := p989.o (p985.o (p982.o s980 rfl) rfl) rfl
        refine s1k p989.z rfl (yd p989.z rfl rfl s991) rfl fun a992 p993 s994 => ?_
        have s995 := p993.o s991 rfl
        refine s1 p993.z (okPickF s995 cst) rfl fun a996 p997 s998 => ?_
        exact rN ⟨rfl, rfl, (((((((((Pg.refl p965.z).st p970 rfl).st p974 rfl).st p978 rfl).st p982 rfl).st p985 rfl).st p989 rfl).st p993 rfl).st p997 rfl), (andF hb967 s998)⟩
      · have s999 := bv s966 hb967
        have s1000 := p965.o (pg962.o (p933.o (p930.o (p927.o (p923.o s921 rfl) rfl) rfl) rfl) rfl) rfl
        refine s1g p965.z (okFA (o' := 2) fo25_2 s1000 rfl) rfl (yd p965.z rfl rfl s999) fun a1001 p1002 s1003 => ?_
        have s1004 := p1002.o s999 rfl
        refine s1g p1002.z (okLd (j := 2) na3 s1003 (m149.cl) rfl rfl) rfl (yd p1002.z rfl rfl s1004) fun a1005 p1006 s1007 => ?_
        have s1008 := p1006.o s1004 rfl
        refine s1g p1006.z (okNe s1007 cst) rfl (yd p1006.z rfl rfl s1008) fun a1009 p1010 s1011 => ?_
        have s1012 := p1010.o s1008 rfl
        refine s1g p1010.z (okMv s1011) rfl (yd p1010.z rfl rfl s1012) fun a1013 p1014 s1015 => ?_
        refine cutP 3 (fun a' => Pg Try.f24.ntmps [117, 118, 119] a1013 a' ∧ a'.eval (.tmp 119) = .bool ((x0.owner != (-1)) || (decide (0 < t62)))) ?_ ?_
        · rcases bf (x0.owner != (-1)) with hb1016 | hb1016
          · have s1017 := bv s1015 hb1016
            have s1018 := p1014.o (p1010.o (p1006.o (p1002.o (p965.o (pg962.o (p933.o (p930.o (p927.o (p923.o (pg919.o (pg520.o (pg167.o s148 rfl) rfl) rfl) rfl) rfl) rfl) rfl) rfl) rfl) rfl) rfl) rfl) rfl
            refine s1g p1014.z (okMv s1018) rfl (yd p1014.z rfl rfl s1017) fun a1019 p1020 s1021 => ?_
            have s1022 := p1020.o s1017 rfl
            refine s1g p1020.z (okGt s1021 cst) rfl (yd p1020.z rfl rfl s1022) fun a1023 p1024 s1025 => ?_
            have s1026 := p1024.o (p1020.o (p1014.o s1012 rfl) rfl) rfl
            have s1027 := p1024.o s1022 rfl
            refine s1g p1024.z (okPickF s1027 s1025) rfl (yd p1024.z rfl rfl s1026) fun a1028 p1029 s1030 => ?_
            exact rN ⟨rfl, rfl, ((((Pg.refl p1014.z).st p1020 rfl).st p1024 rfl).st p1029 rfl), (orF hb1016 s1030)⟩
          · have s1031 := bv s1015 hb1016
            refine s1k p1014.z rfl (yd p1014.z rfl rfl s1031) rfl fun a1032 p1033 s1034 => ?_
            have s1035 := p1033.o s1031 rfl
            refine s1k p1033.z rfl (yd p1033.z rfl rfl s1035) rfl fun a1036 p1037 s1038 => ?_
            have s1039 := p1037.o (p1033.o (p1014.o s1012 rfl) rfl) rfl
            have s1040 := p1037.o s1035 rfl
            refine s1g p1037.z (okPickT s1040 cst) rfl (yd p1037.z rfl rfl s1039) fun a1041 p1042 s1043 => ?_
            exact rN ⟨rfl, rfl, ((((Pg.refl p1014.z).st p1033 rfl).st p1037 rfl).st p1042 rfl), (orT hb1016 s1043)⟩
        rintro a1044 ⟨pg1045, s1046⟩
        have s1047 := pg1045.o (p1014.o s1012 rfl) rfl
        refine s1 pg1045.z (okPickT s1047 s1046) rfl fun a1048 p1049 s1050 => ?_
        exact rN ⟨rfl, rfl, (((((((Pg.refl p965.z).st p1002 rfl).st p1006 rfl).st p1010 rfl).st p1014 rfl).tr pg1045 rfl).st p1049 rfl), (andT hb967 s1050)⟩
    rintro a1051 ⟨pg1052, s1053⟩
    refine s1 pg1052.z (okMv s1053) rfl fun a1054 p1055 s1056 => ?_
    refine cutP 12 (fun a' => Pg Try.f24.ntmps [122, 123, 124, 125, 126, 127, 128, 129, 130, 131, 132, 133] a1054 a' ∧ a'.eval (.tmp 133) = .bool ((((x2.value == 0) && (!(x0.owner == x1))) && ((x0.owner != (-1)) || (decide (0 < t62)))) || (((x2.value == 1) && (x0.owner != (-1))) && (!(x0.owner == x1))))) ?_ ?_
    · rcases bf (((x2.value == 0) && (!(x0.owner == x1))) && ((x0.owner != (-1)) || (decide (0 < t62)))) with hb1057 | hb1057
      · have s1058 := bv s1056 hb1057
        have s1059 := p1055.o (pg1052.o (p965.o (pg962.o (p933.o (p930.o (p927.o s925 rfl) rfl) rfl) rfl) rfl) rfl) rfl
        refine s1g p1055.z (okMv s1059) rfl (yd p1055.z rfl rfl s1058) fun a1060 p1061 s1062 => ?_
        have s1063 := p1061.o s1058 rfl
        refine s1g p1061.z (okEq s1062 cst) rfl (yd p1061.z rfl rfl s1063) fun a1064 p1065 s1066 => ?_
        have s1067 := p1065.o s1063 rfl
        refine s1g p1065.z (okMv s1066) rfl (yd p1065.z rfl rfl s1067) fun a1068 p1069 s1070 => ?_
        refine cutP 4 (fun a' => Pg Try.f24.ntmps [125, 126, 127, 128] a1068 a' ∧ a'.eval (.tmp 128) = .bool ((x2.value == 1) && (x0.owner != (-1)))) ?_ ?_
        · rcases bf (x2.value == 1) with hb1071 | hb1071
          · have s1072 := bv s1070 hb1071
            refine s1k p1069.z rfl (yd p1069.z rfl rfl s1072) rfl fun a1073 p1074 s1075 => ?_
            have s1076 := p1074.o s1072 rfl
            refine s1k p1074.z rfl (yd p1074.z rfl rfl s1076) rfl fun a1077 p1078 s1079 => ?_
            have s1080 := p1078.o s1076 rfl
            refine s1k p1078.z rfl (yd p1078.z rfl rfl s1080) rfl fun a1081 p1082 s1083 => ?_
            have s1084 := p1082.o (p1078.o (p1074.o (p1069.o s1067 rfl) rfl) rfl) rfl
            have s1085 := p1082.o s1080 rfl
            refine s1g p1082.z (okPickF s1085 cst) rfl (yd p1082.z rfl rfl s1084) fun a1086 p1087 s1088 => ?_
            exact rN ⟨rfl, rfl, (((((Pg.refl p1069.z).st p1074 rfl).st p1078 rfl).st p1082 rfl).st p1087 rfl), (andF hb1071 s1088)⟩
          · have s1089 := bv s1070 hb1071
            have s1090 := p1069.o (p1065.o (p1061.o (p1055.o (pg1052.o (p965.o (pg962.o (p933.o (p930.o (p927.o (p923.o s921 rfl) rfl) rfl) rfl) rfl) rfl) rfl) rfl) rfl) rfl) rfl
            refine s1g p1069.z (okFA (o' := 2) fo25_2 s1090 rfl) rfl (yd p1069.z rfl rfl s1089) fun a1091 p1092 s1093 => ?_
            have s1094 := p1092.o s1089 rfl
            refine s1g p1092.z (okLd (j := 2) na3 s1093 (m149.cl) rfl rfl) rfl (yd p1092.z rfl rfl s1094) fun a1095 p1096 s1097 => ?_
            have s1098 := p1096.o s1094 rfl
            refine s1g p1096.z (okNe s1097 cst) rfl (yd p1096.z rfl rfl s1098) fun a1099 p1100 s1101 => ?_
            have s1102 := p1100.o (p1096.o (p1092.o (p1069.o s1067 rfl) rfl) rfl) rfl
            have s1103 := p1100.o s1098 rfl
            refine s1g p1100.z (okPickT s1103 s1101) rfl (yd p1100.z rfl rfl s1102) fun a1104 p1105 s1106 => ?_
            exact rN ⟨rfl, rfl, (((((Pg.refl p1069.z).st p1092 rfl).st p1096 rfl).st p1100 rfl).st p1105 rfl), (andT hb1071 s1106)⟩
        rintro a1107 ⟨pg1108, s1109⟩
        have s1110 := pg1108.o (p1069.o s1067 rfl) rfl
        refine s1g pg1108.z (okMv s1109) rfl (yd pg1108.z rfl rfl s1110) fun a1111 p1112 s1113 => ?_
        refine cutP 3 (fun a' => Pg Try.f24.ntmps [130, 131, 132] a1111 a' ∧ a'.eval (.tmp 132) = .bool (((x2.value == 1) && (x0.owner != (-1))) && (!(x0.owner == x1)))) ?_ ?_
        · rcases bf ((x2.value == 1) && (x0.owner != (-1))) with hb1114 | hb1114
          · have s1115 := bv s1113 hb1114
            refine s1k p1112.z rfl (yd p1112.z rfl rfl s1115) rfl fun a1116 p1117 s1118 => ?_
            have s1119 := p1117.o s1115 rfl
            refine s1k p1117.z rfl (yd p1117.z rfl rfl s1119) rfl fun a1120 p1121 s1122 => ?_
            have s1123 := p1121.o (p1117.o (p1112.o s1110 rfl) rfl) rfl
            have s1124 := p1121.o s1119 rfl
            refine s1g p1121.z (okPickF s1124 cst) rfl (yd p1121.z rfl rfl s1123) fun a1125 p1126 s1127 => ?_
            exact rN ⟨rfl, rfl, ((((Pg.refl p1112.z).st p1117 rfl).st p1121 rfl).st p1126 rfl), (andF hb1114 s1127)⟩
          · have s1128 := bv s1113 hb1114
            have s1129 := p1112.o (pg1108.o (p1069.o (p1065.o (p1061.o (p1055.o (pg1052.o (p965.o (pg962.o (p933.o (p930.o (p927.o (p923.o (pg919.o (pg520.o (pg167.o s147 rfl) rfl) rfl) rfl) rfl) rfl) rfl) rfl) rfl) rfl) rfl) rfl) rfl) rfl) rfl) rfl
            refine s1g p1112.z (okMv s1129) rfl (yd p1112.z rfl rfl s1128) fun a1130 p1131 s1132 => ?_
            have s1133 := p1131.o s1128 rfl
            refine s1g p1131.z (okNot s1132) rfl (yd p1131.z rfl rfl s1133) fun a1134 p1135 s1136 => ?_
            have s1137 := p1135.o (p1131.o (p1112.o s1110 rfl) rfl) rfl
            have s1138 := p1135.o s1133 rfl
            refine s1g p1135.z (okPickT s1138 s1136) rfl (yd p1135.z rfl rfl s1137) fun a1139 p1140 s1141 => ?_
            exact rN ⟨rfl, rfl, ((((Pg.refl p1112.z).st p1131 rfl).st p1135 rfl).st p1140 rfl), (andT hb1114 s1141)⟩
        rintro a1142 ⟨pg1143, s1144⟩
        have s1145 := pg1143.o (p1112.o s1110 rfl) rfl
        refine s1 pg1143.z (okPickF s1145 s1144) rfl fun a1146 p1147 s1148 => ?_
        exact rN ⟨rfl, rfl, ((((((((Pg.refl p1055.z).st p1061 rfl).st p1065 rfl).st p1069 rfl).tr pg1108 rfl).st p1112 rfl).tr pg1143 rfl).st p1147 rfl), (orF hb1057 s1148)⟩
      · have s1149 := bv s1056 hb1057
        refine s1k p1055.z rfl (yd p1055.z rfl rfl s1149) rfl fun a1150 p1151 s1152 => ?_
        have s1153 := p1151.o s1149 rfl
        refine s1k p1151.z rfl (yd p1151.z rfl rfl s1153) rfl fun a1154 p1155 s1156 => ?_
        have s1157 := p1155.o s1153 rfl
        refine s1k p1155.z rfl (yd p1155.z rfl rfl s1157) rfl fun a1158 p1159 s1160 => ?_
        refine s1k p1159.z rfl (ydU p1159.z rfl rfl s1160) rfl fun a1161 p1162 s1163 => ?_
        have s1164 := p1162.o s1160 rfl
        refine s1k p1162.z rfl (ydU p1162.z rfl rfl s1164) rfl fun a1165 p1166 s1167 => ?_
        have s1168 := p1166.o s1164 rfl
        refine s1k p1166.z rfl (ydU p1166.z rfl rfl s1168) rfl fun a1169 p1170 s1171 => ?_
        have s1172 := p1170.o (p1166.o (p1162.o (p1159.o s1157 rfl) rfl) rfl) rfl
        refine s1k p1170.z rfl (yd p1170.z rfl rfl s1172) rfl fun a1173 p1174 s1175 => ?_
        have s1176 := p1174.o s1172 rfl
        refine s1k p1174.z rfl (yd p1174.z rfl rfl s1176) rfl fun a1177 p1178 s1179 => ?_
        refine s1k p1178.z rfl (ydU p1178.z rfl rfl s1179) rfl fun a1180 p1181 s1182 => ?_
        have s1183 := p1181.o s1179 rfl
        refine s1k p1181.z rfl (ydU p1181.z rfl rfl s1183) rfl fun a1184 p1185 s1186 => ?_
        have s1187 := p1185.o (p1181.o (p1178.o s1176 rfl) rfl) rfl
        refine s1k p1185.z rfl (yd p1185.z rfl rfl s1187) rfl fun a1188 p1189 s1190 => ?_
        have s1191 := p1189.o s1187 rfl
        refine s1 p1189.z (okPickT s1191 cst) rfl fun a1192 p1193 s1194 => ?_
        exact rN ⟨rfl, rfl, (((((((((((((Pg.refl p1055.z).st p1151 rfl).st p1155 rfl).st p1159 rfl).st p1162 rfl).st p1166 rfl).st p1170 rfl).st p1174 rfl).st p1178 rfl).st p1181 rfl).st p1185 rfl).st p1189 rfl).st p1193 rfl), (orT hb1057 s1194)⟩
    rintro a1195 ⟨pg1196, s1197⟩
    have s1198 := pg1196.o (p1055.o (pg1052.o (p965.o (pg962.o (p933.o (p930.o (p927.o (p923.o (pg919.o (pg520.o (pg167.o s144 rfl) rfl) rfl) rfl) rfl) rfl) rfl) rfl) rfl) rfl) rfl) rfl
    have s1199 := pg1196.o (p1055.o (pg1052.o (p965.o (pg962.o (p933.o (p930.o (p927.o s924 rfl) rfl) rfl) rfl) rfl) rfl) rfl) rfl
    have q1200 := qh0_0.mono ((((g6.tA (Nat.le_of_eq e7.symm)).trans (g16.tA (Nat.le_of_eq e17.symm))).trans (g25.tA (Nat.le_of_eq e26.symm))).trans t153)
    refine lS (oStoW (cs := TThing.C x0 h0_0) pg1196.z s1198 s1199 m151 Try.sizeOf25 rfl (TThing.C_one _ q1200.one) rfl fun w1201 m1202 g1203 => ?_)
    have cx1204 := cx152.st g1203 f29
    refine s1 pg1196.z (okAs s1197) rfl fun a1205 p1206 s1207 => ?_
    refine rN (thenN ?_)
    have s1208 := p1206.o s1198 rfl
    obtain rfl := Option.some.inj h
    have q1209 := q1200.mono (g1203.t1 (.head _))
    exact wp_ret (blkR (thenR (ret2 p1206.z Try.results24 (rvA ag25 s1208 m1202 rfl) (rvT s1207) ⟨_, rfl, h0_0, rfl, (q1209.mono ((Tr.refl _ _).sub (fun i h => (.tail _ (.tail _ (.tail _ h)))))), cx1204.g⟩)))
  replace h := (ifN hb920).symm.trans h
  refine wp_seq ?_
  refine reg ?_
  refine s1 pg919.z (okEq s918 cst) rfl fun a1210 p1211 s1212 => ?_
  refine s1 p1211.z (okAs s1212) rfl fun a1213 p1214 s1215 => ?_
  refine rN (thenN ?_)
  refine cnd s1215 (fun hb1216 => ?_) (fun hb1216 => ?_)
  · replace h := (ifP hb1216).symm.trans h
    refine wp_seq ?_
    obtain ⟨b1263, hb1264, h⟩ := Option.bind_eq_some_iff.1 h
    have s1395 := p1214.o (p1211.o (pg919.o (pg520.o (pg167.o s142 rfl) rfl) rfl) rfl) rfl
    have s1396 := p1214.o (p1211.o (pg919.o (pg520.o (pg167.o s144 rfl) rfl) rfl) rfl) rfl
    refine regJ (fun a' w' => Z Try.f24.ntmps a' ∧ a'.eval (.tmp 3) = ptr b3 0 ∧ a'.eval (.tmp 6) = ptr b22 0 ∧ a'.eval (.tmp 7) = .bool b1263 ∧ Bk w' b3 (TThing.C x0 h0_0) 25 ∧ Bk w' b13 (TNote.C x2) 29 ∧ Bk w' b22 (TThing.C x0 h0_0) 25 ∧ Cx [] w (b22 :: b13 :: b3 :: L) w' ∧ Tr (b22 :: b13 :: b3 :: L) w139 (b22 :: b13 :: b3 :: L) w') ?_ ?_
    · refine regH (n := 20) [(0, fun w' => Cl w' b3 0 (TThing.C x0 h0_0)), (14, fun w' => Cl w' b3 (4 + x1.toNat) [.int .i64 (x0.reads.get x1)])] mixed rfl ?_
      have g1397 := G.drew w139
      have cx1398 := cx152.ca g1397
      have m1399 := m149.g0 g1397
      refine hTakeW (i := 0) rfl (by kernel_rfl) (by kernel_rfl) (by kernel_rfl) nrm (.inr (.head _)) p1214.z (wN rfl) (fun _ h => okLdA ag25 s1395 h rfl rfl whole) (m1399.clp rfl) rfl fun a1400 p1401 sp1401 => ?_
      have s1402 := p1401.o (p1214.o (p1211.o (pg919.o (pg520.o (pg167.o s146 rfl) rfl) rfl) rfl) rfl) rfl
      refine hTakeW (i := 1) rfl (by kernel_rfl) (by kernel_rfl) (by kernel_rfl) nrm (cond := fun _ => True) (.inl fun _ => trivial) p1401.z (wN rfl) (fun _ _ => okMv s1402) trivial rfl fun a1403 p1404 sp1404 => ?_
      refine hTakeW (i := 2) rfl (by kernel_rfl) (by kernel_rfl) (by kernel_rfl) nrm (cond := fun _ => True) (.inl fun _ => trivial) p1404.z (wN rfl) (fun _ _ => okEq sp1404 cst) trivial rfl fun a1405 p1406 sp1406 => ?_
      refine hTakeW (i := 3) rfl (by kernel_rfl) (by kernel_rfl) (by kernel_rfl) nrm (cond := fun _ => True) (.inl fun _ => trivial) p1406.z (wN rfl) (fun _ _ => okMv sp1406) trivial rfl fun a1407 p1408 sp1408 => ?_
      rcases bf (x2.value == 0) with hb1409 | hb1409
      · have s1410 := bv sp1408 hb1409
        refine hSkip (i := 4) rfl (by kernel_rfl) (by kernel_rfl) (by kernel_rfl) nrm rfl p1408.z (yd p1408.z rfl rfl s1410) rfl rfl fun a1411 p1412 sp1412 => ?_
        have s1413 := p1412.o s1410 rfl
        refine hSkip (i := 5) rfl (by kernel_rfl) (by kernel_rfl) (by kernel_rfl) nrm rfl p1412.z (yd p1412.z rfl rfl s1413) rfl rfl fun a1414 p1415 sp1415 => ?_
        have s1416 := p1415.o s1413 rfl
        refine hTakeW (i := 6) rfl (by kernel_rfl) (by kernel_rfl) (by kernel_rfl) nrm (cond := fun _ => True) (.inl fun _ => trivial) p1415.z (wN rfl) (fun _ _ => okPickF s1416 cst) trivial rfl fun a1417 p1418 sp1418 => ?_
        refine hTakeW (i := 7) rfl (by kernel_rfl) (by kernel_rfl) (by kernel_rfl) nrm (cond := fun _ => True) (.inl fun _ => trivial) p1418.z (wN rfl) (fun _ _ => okMv sp1418) trivial rfl fun a1419 p1420 sp1420 => ?_
        replace h := (ifN (by simp [hb1409])).symm.trans hb1264
        have s1422 := p1420.o (p1418.o (p1415.o (p1412.o (p1408.o (p1406.o (p1404.o s1402 rfl) rfl) rfl) rfl) rfl) rfl) rfl
        refine hTakeW (i := 8) rfl (by kernel_rfl) (by kernel_rfl) (by kernel_rfl) nrm (cond := fun _ => True) (.inl fun _ => trivial) p1420.z (wG rfl (yd p1420.z rfl rfl sp1420)) (fun _ _ => okMv s1422) trivial rfl fun a1423 p1424 sp1424 => ?_
        have s1425 := p1424.o sp1420 rfl
        refine hTakeW (i := 9) rfl (by kernel_rfl) (by kernel_rfl) (by kernel_rfl) nrm (cond := fun _ => True) (.inl fun _ => trivial) p1424.z (wG rfl (yd p1424.z rfl rfl s1425)) (fun _ _ => okEq sp1424 cst) trivial rfl fun a1426 p1427 sp1427 => ?_
        have s1428 := p1427.o s1425 rfl
        refine hTakeW (i := 10) rfl (by kernel_rfl) (by kernel_rfl) (by kernel_rfl) nrm (cond := fun _ => True) (.inl fun _ => trivial) p1427.z (wG rfl (yd p1427.z rfl rfl s1428)) (fun _ _ => okMv sp1427) trivial rfl fun a1429 p1430 sp1430 => ?_
        obtain ⟨b1431, hb1432, hr1433⟩ := Option.bind_eq_some_iff.1 h
        rcases bf (x2.value == 1) with hb1434 | hb1434
        · have s1435 := bv sp1430 hb1434
          replace h := (ifN hb1434).symm.trans hb1432
          refine hSkip (i := 11) rfl (by kernel_rfl) (by kernel_rfl) (by kernel_rfl) nrm rfl p1430.z (yd p1430.z rfl rfl s1435) rfl rfl fun a1437 p1438 sp1438 => ?_
          have s1439 := p1438.o s1435 rfl
          refine hSkip (i := 12) rfl (by kernel_rfl) (by kernel_rfl) (by kernel_rfl) nrm rfl p1438.z (yd p1438.z rfl rfl s1439) rfl rfl fun a1440 p1441 sp1441 => ?_
          have s1442 := p1441.o s1439 rfl
          refine hSkip (i := 13) rfl (by kernel_rfl) (by kernel_rfl) (by kernel_rfl) nrm rfl p1441.z (yd p1441.z rfl rfl s1442) rfl rfl fun a1443 p1444 sp1444 => ?_
          have s1445 := p1444.o s1442 rfl
          refine hSkip (i := 14) rfl (by kernel_rfl) (by kernel_rfl) (by kernel_rfl) nrm rfl p1444.z (yd p1444.z rfl rfl s1445) rfl rfl fun a1446 p1447 sp1447 => ?_
          have s1448 := p1447.o s1445 rfl
          refine hSkip (i := 15) rfl (by kernel_rfl) (by kernel_rfl) (by kernel_rfl) nrm rfl p1447.z (yd p1447.z rfl rfl s1448) rfl rfl fun a1449 p1450 sp1450 => ?_
          have s1451 := p1450.o (p1447.o (p1444.o (p1441.o (p1438.o (p1430.o s1428 rfl) rfl) rfl) rfl) rfl) rfl
          have s1452 := p1450.o s1448 rfl
          refine hTakeW (i := 16) rfl (by kernel_rfl) (by kernel_rfl) (by kernel_rfl) nrm (cond := fun _ => True) (.inl fun _ => trivial) p1450.z (wG rfl (yd p1450.z rfl rfl s1451)) (fun _ _ => okPickF s1452 cst) trivial rfl fun a1453 p1454 sp1454 => ?_
          obtain rfl := Option.some.inj h
          replace h := hr1433
          have s1455 := p1454.o s1451 rfl
          refine hTakeW (i := 17) rfl (by kernel_rfl) (by kernel_rfl) (by kernel_rfl) nrm (cond := fun _ => True) (.inl fun _ => trivial) p1454.z (wN rfl) (fun _ _ => okPickF s1455 sp1454) trivial rfl fun a1456 p1457 sp1457 => ?_
          obtain rfl := Option.some.inj h
          have s1458 := p1457.o (p1454.o (p1450.o (p1447.o (p1444.o (p1441.o (p1438.o (p1430.o (p1427.o (p1424.o (p1420.o (p1418.o (p1415.o (p1412.o (p1408.o (p1406.o (p1404.o (p1401.o s1396 rfl) rfl) rfl) rfl) rfl) rfl) rfl) rfl) rfl) rfl) rfl) rfl) rfl) rfl) rfl) rfl) rfl) rfl
          have s1459 := p1457.o (p1454.o (p1450.o (p1447.o (p1444.o (p1441.o (p1438.o (p1430.o (p1427.o (p1424.o (p1420.o (p1418.o (p1415.o (p1412.o (p1408.o (p1406.o (p1404.o sp1401 rfl) rfl) rfl) rfl) rfl) rfl) rfl) rfl) rfl) rfl) rfl) rfl) rfl) rfl) rfl) rfl) rfl
          have m1460 := m151.g0 g1397
          have q1461 := qh0_0.mono (((((g6.tA (Nat.le_of_eq e7.symm)).trans (g16.tA (Nat.le_of_eq e17.symm))).trans (g25.tA (Nat.le_of_eq e26.symm))).trans t153).trans g1397.t0)
          refine hOne (i := 18) (by kernel_rfl) rfl (oStoW (cs := TThing.C x0 h0_0) p1457.z s1458 s1459 m1460 Try.sizeOf25 rfl (TThing.C_one _ q1461.one) rfl fun w1462 m1463 g1464 => ?_)
          have cx1465 := cx1398.st g1464 f29
          refine ⟨⟨.inl rfl, .inr fun h => h.g1 g1464 (m27.ne e26), trivial⟩, ?_⟩
          refine hTakeW (i := 19) rfl (by kernel_rfl) (by kernel_rfl) (by kernel_rfl) nrm (cond := fun _ => True) (.inl fun _ => trivial) p1457.z (wN rfl) (fun _ _ => okAs sp1457) trivial rfl fun a1466 p1467 sp1467 => ?_
          have s1468 := p1467.o (p1457.o (p1454.o (p1450.o (p1447.o (p1444.o (p1441.o (p1438.o (p1430.o (p1427.o (p1424.o (p1420.o (p1418.o (p1415.o (p1412.o (p1408.o (p1406.o (p1404.o (p1401.o s1395 rfl) rfl) rfl) rfl) rfl) rfl) rfl) rfl) rfl) rfl) rfl) rfl) rfl) rfl) rfl) rfl) rfl) rfl) rfl
          have s1469 := p1467.o s1458 rfl
          have m1470 := m1399.g1 g1464 (m27.ne e26)
          have m1471 := (m150.g0 g1397).g1 g1464 (m15.ne e26)
          exact hDone (by kernel_rfl) ⟨rfl, p1467.z, s1468, s1469, sp1467, m1470, m1471, m1463, cx1465, (g1397.t0.trans (g1464.t1 (.head _)))⟩
        · have s1472 := bv sp1430 hb1434
          replace h := (ifP hb1434).symm.trans hb1432
          have s1474 := p1430.o (p1427.o (p1424.o (p1420.o (p1418.o (p1415.o (p1412.o (p1408.o (p1406.o (p1404.o (p1401.o (p1214.o (p1211.o (pg919.o (pg520.o (pg167.o s141 rfl) rfl) rfl) rfl) rfl) rfl) rfl) rfl) rfl) rfl) rfl) rfl) rfl) rfl) rfl) rfl
          refine hTakeW (i := 11) rfl (by kernel_rfl) (by kernel_rfl) (by kernel_rfl) nrm (cond := fun _ => True) (.inl fun _ => trivial) p1430.z (wG rfl (yd p1430.z rfl rfl s1472)) (fun _ _ => okMv s1474) trivial rfl fun a1475 p1476 sp1476 => ?_
          have s1477 := p1476.o s1472 rfl
          have s1478 := p1476.o (p1430.o (p1427.o (p1424.o (p1420.o (p1418.o (p1415.o (p1412.o (p1408.o (p1406.o (p1404.o (p1401.o s1395 rfl) rfl) rfl) rfl) rfl) rfl) rfl) rfl) rfl) rfl) rfl) rfl
          refine hTakeW (i := 12) rfl (by kernel_rfl) (by kernel_rfl) (by kernel_rfl) nrm (cond := fun _ => True) (.inl fun _ => trivial) p1476.z (wG rfl (yd p1476.z rfl rfl s1477)) (fun _ _ => okFA (o' := 4) fo25_4 s1478 rfl) trivial rfl fun a1479 p1480 sp1480 => ?_
          have s1481 := p1480.o s1477 rfl
          have s1482 := p1480.o sp1476 rfl
          by_cases hi1483 : 0 ≤ x1 ∧ x1 < 8
          case neg => rw [if_neg hi1483] at h; cases h
          replace h := (if_pos hi1483).symm.trans h
          refine hTakeW (i := 13) rfl (by kernel_rfl) (by kernel_rfl) (by kernel_rfl) nrm (cond := fun _ => True) (.inl fun _ => trivial) p1480.z (wG rfl (yd p1480.z rfl rfl s1481)) (fun _ _ => okIA Try.underlying22 Try.sizeOf3 sp1480 s1482 hi1483) trivial rfl fun a1484 p1485 sp1485 => ?_
          have s1486 := p1485.o s1481 rfl
          refine hTakeW (i := 14) rfl (by kernel_rfl) (by kernel_rfl) (by kernel_rfl) nrm (.inr (.tail _ (.head _))) p1485.z (wG rfl (yd p1485.z rfl rfl s1486)) (fun _ h => okLd (j := 0) na3 sp1485 h rfl rfl) (clD (TThing.C_reads_get _ _ hi1483) m1399.cl) rfl fun a1487 p1488 sp1488 => ?_
          have s1489 := p1488.o s1486 rfl
          refine hTakeW (i := 15) rfl (by kernel_rfl) (by kernel_rfl) (by kernel_rfl) nrm (cond := fun _ => True) (.inl fun _ => trivial) p1488.z (wG rfl (yd p1488.z rfl rfl s1489)) (fun _ _ => okEq sp1488 cst) trivial rfl fun a1490 p1491 sp1491 => ?_
          have s1492 := p1491.o (p1488.o (p1485.o (p1480.o (p1476.o (p1430.o s1428 rfl) rfl) rfl) rfl) rfl) rfl
          have s1493 := p1491.o s1489 rfl
          refine hTakeW (i := 16) rfl (by kernel_rfl) (by kernel_rfl) (by kernel_rfl) nrm (cond := fun _ => True) (.inl fun _ => trivial) p1491.z (wG rfl (yd p1491.z rfl rfl s1492)) (fun _ _ => okPickT s1493 sp1491) trivial rfl fun a1494 p1495 sp1495 => ?_
          obtain rfl := Option.some.inj h
          replace h := hr1433
          have s1496 := p1495.o s1492 rfl
          refine hTakeW (i := 17) rfl (by kernel_rfl) (by kernel_rfl) (by kernel_rfl) nrm (cond := fun _ => True) (.inl fun _ => trivial) p1495.z (wN rfl) (fun _ _ => okPickF s1496 sp1495) trivial rfl fun a1497 p1498 sp1498 => ?_
          obtain rfl := Option.some.inj h
          have s1499 := p1498.o (p1495.o (p1491.o (p1488.o (p1485.o (p1480.o (p1476.o (p1430.o (p1427.o (p1424.o (p1420.o (p1418.o (p1415.o (p1412.o (p1408.o (p1406.o (p1404.o (p1401.o s1396 rfl) rfl) rfl) rfl) rfl) rfl) rfl) rfl) rfl) rfl) rfl) rfl) rfl) rfl) rfl) rfl) rfl) rfl
          have s1500 := p1498.o (p1495.o (p1491.o (p1488.o (p1485.o (p1480.o (p1476.o (p1430.o (p1427.o (p1424.o (p1420.o (p1418.o (p1415.o (p1412.o (p1408.o (p1406.o (p1404.o sp1401 rfl) rfl) rfl) rfl) rfl) rfl) rfl) rfl) rfl) rfl) rfl) rfl) rfl) rfl) rfl) rfl) rfl
          have m1501 := m151.g0 g1397
          have q1502 := qh0_0.mono (((((g6.tA (Nat.le_of_eq e7.symm)).trans (g16.tA (Nat.le_of_eq e17.symm))).trans (g25.tA (Nat.le_of_eq e26.symm))).trans t153).trans g1397.t0)
          refine hOne (i := 18) (by kernel_rfl) rfl (oStoW (cs := TThing.C x0 h0_0) p1498.z s1499 s1500 m1501 Try.sizeOf25 rfl (TThing.C_one _ q1502.one) rfl fun w1503 m1504 g1505 => ?_)
          have cx1506 := cx1398.st g1505 f29
          refine ⟨⟨.inl rfl, .inr fun h => h.g1 g1505 (m27.ne e26), trivial⟩, ?_⟩
          refine hTakeW (i := 19) rfl (by kernel_rfl) (by kernel_rfl) (by kernel_rfl) nrm (cond := fun _ => True) (.inl fun _ => trivial) p1498.z (wN rfl) (fun _ _ => okAs sp1498) trivial rfl fun a1507 p1508 sp1508 => ?_
          have s1509 := p1508.o (p1498.o (p1495.o (p1491.o (p1488.o (p1485.o (p1480.o s1478 rfl) rfl) rfl) rfl) rfl) rfl) rfl
          have s1510 := p1508.o s1499 rfl
          have m1511 := m1399.g1 g1505 (m27.ne e26)
          have m1512 := (m150.g0 g1397).g1 g1505 (m15.ne e26)
          exact hDone (by kernel_rfl) ⟨rfl, p1508.z, s1509, s1510, sp1508, m1511, m1512, m1504, cx1506, (g1397.t0.trans (g1505.t1 (.head _)))⟩
      · have s1513 := bv sp1408 hb1409
        have s1514 := p1408.o (p1406.o (p1404.o (p1401.o (p1214.o (p1211.o (pg919.o (pg520.o (pg167.o s147 rfl) rfl) rfl) rfl) rfl) rfl) rfl) rfl) rfl
        refine hTakeW (i := 4) rfl (by kernel_rfl) (by kernel_rfl) (by kernel_rfl) nrm (cond := fun _ => True) (.inl fun _ => trivial) p1408.z (wG rfl (yd p1408.z rfl rfl s1513)) (fun _ _ => okMv s1514) trivial rfl fun a1515 p1516 sp1516 => ?_
        have s1517 := p1516.o s1513 rfl
        refine hTakeW (i := 5) rfl (by kernel_rfl) (by kernel_rfl) (by kernel_rfl) nrm (cond := fun _ => True) (.inl fun _ => trivial) p1516.z (wG rfl (yd p1516.z rfl rfl s1517)) (fun _ _ => okNot sp1516) trivial rfl fun a1518 p1519 sp1519 => ?_
        have s1520 := p1519.o s1517 rfl
        refine hTakeW (i := 6) rfl (by kernel_rfl) (by kernel_rfl) (by kernel_rfl) nrm (cond := fun _ => True) (.inl fun _ => trivial) p1519.z (wN rfl) (fun _ _ => okPickT s1520 sp1519) trivial rfl fun a1521 p1522 sp1522 => ?_
        refine hTakeW (i := 7) rfl (by kernel_rfl) (by kernel_rfl) (by kernel_rfl) nrm (cond := fun _ => True) (.inl fun _ => trivial) p1522.z (wN rfl) (fun _ _ => okMv sp1522) trivial rfl fun a1523 p1524 sp1524 => ?_
        rcases bf (!(x0.owner == x1)) with hb1525 | hb1525
        · have s1526 := bv sp1524 hb1525
          replace h := (ifN (by simp [hb1409, hb1525])).symm.trans hb1264
          have s1528 := p1524.o (p1522.o (p1519.o (p1516.o (p1408.o (p1406.o (p1404.o s1402 rfl) rfl) rfl) rfl) rfl) rfl) rfl
          refine hTakeW (i := 8) rfl (by kernel_rfl) (by kernel_rfl) (by kernel_rfl) nrm (cond := fun _ => True) (.inl fun _ => trivial) p1524.z (wG rfl (yd p1524.z rfl rfl s1526)) (fun _ _ => okMv s1528) trivial rfl fun a1529 p1530 sp1530 => ?_
          have s1531 := p1530.o s1526 rfl
          refine hTakeW (i := 9) rfl (by kernel_rfl) (by kernel_rfl) (by kernel_rfl) nrm (cond := fun _ => True) (.inl fun _ => trivial) p1530.z (wG rfl (yd p1530.z rfl rfl s1531)) (fun _ _ => okEq sp1530 cst) trivial rfl fun a1532 p1533 sp1533 => ?_
          have s1534 := p1533.o s1531 rfl
          refine hTakeW (i := 10) rfl (by kernel_rfl) (by kernel_rfl) (by kernel_rfl) nrm (cond := fun _ => True) (.inl fun _ => trivial) p1533.z (wG rfl (yd p1533.z rfl rfl s1534)) (fun _ _ => okMv sp1533) trivial rfl fun a1535 p1536 sp1536 => ?_
          obtain ⟨b1537, hb1538, hr1539⟩ := Option.bind_eq_some_iff.1 h
          rcases bf (x2.value == 1) with hb1540 | hb1540
          · have s1541 := bv sp1536 hb1540
            replace h := (ifN hb1540).symm.trans hb1538
            refine hSkip (i := 11) rfl (by kernel_rfl) (by kernel_rfl) (by kernel_rfl) nrm rfl p1536.z (yd p1536.z rfl rfl s1541) rfl rfl fun a1543 p1544 sp1544 => ?_
            have s1545 := p1544.o s1541 rfl
            refine hSkip (i := 12) rfl (by kernel_rfl) (by kernel_rfl) (by kernel_rfl) nrm rfl p1544.z (yd p1544.z rfl rfl s1545) rfl rfl fun a1546 p1547 sp1547 => ?_
            have s1548 := p1547.o s1545 rfl
            refine hSkip (i := 13) rfl (by kernel_rfl) (by kernel_rfl) (by kernel_rfl) nrm rfl p1547.z (yd p1547.z rfl rfl s1548) rfl rfl fun a1549 p1550 sp1550 => ?_
            have s1551 := p1550.o s1548 rfl
            refine hSkip (i := 14) rfl (by kernel_rfl) (by kernel_rfl) (by kernel_rfl) nrm rfl p1550.z (yd p1550.z rfl rfl s1551) rfl rfl fun a1552 p1553 sp1553 => ?_
            have s1554 := p1553.o s1551 rfl
            refine hSkip (i := 15) rfl (by kernel_rfl) (by kernel_rfl) (by kernel_rfl) nrm rfl p1553.z (yd p1553.z rfl rfl s1554) rfl rfl fun a1555 p1556 sp1556 => ?_
            have s1557 := p1556.o (p1553.o (p1550.o (p1547.o (p1544.o (p1536.o s1534 rfl) rfl) rfl) rfl) rfl) rfl
            have s1558 := p1556.o s1554 rfl
            refine hTakeW (i := 16) rfl (by kernel_rfl) (by kernel_rfl) (by kernel_rfl) nrm (cond := fun _ => True) (.inl fun _ => trivial) p1556.z (wG rfl (yd p1556.z rfl rfl s1557)) (fun _ _ => okPickF s1558 cst) trivial rfl fun a1559 p1560 sp1560 => ?_
            obtain rfl := Option.some.inj h
            replace h := hr1539
            have s1561 := p1560.o s1557 rfl
            refine hTakeW (i := 17) rfl (by kernel_rfl) (by kernel_rfl) (by kernel_rfl) nrm (cond := fun _ => True) (.inl fun _ => trivial) p1560.z (wN rfl) (fun _ _ => okPickF s1561 sp1560) trivial rfl fun a1562 p1563 sp1563 => ?_
            obtain rfl := Option.some.inj h
            have s1564 := p1563.o (p1560.o (p1556.o (p1553.o (p1550.o (p1547.o (p1544.o (p1536.o (p1533.o (p1530.o (p1524.o (p1522.o (p1519.o (p1516.o (p1408.o (p1406.o (p1404.o (p1401.o s1396 rfl) rfl) rfl) rfl) rfl) rfl) rfl) rfl) rfl) rfl) rfl) rfl) rfl) rfl) rfl) rfl) rfl) rfl
            have s1565 := p1563.o (p1560.o (p1556.o (p1553.o (p1550.o (p1547.o (p1544.o (p1536.o (p1533.o (p1530.o (p1524.o (p1522.o (p1519.o (p1516.o (p1408.o (p1406.o (p1404.o sp1401 rfl) rfl) rfl) rfl) rfl) rfl) rfl) rfl) rfl) rfl) rfl) rfl) rfl) rfl) rfl) rfl) rfl
            have m1566 := m151.g0 g1397
            have q1567 := qh0_0.mono (((((g6.tA (Nat.le_of_eq e7.symm)).trans (g16.tA (Nat.le_of_eq e17.symm))).trans (g25.tA (Nat.le_of_eq e26.symm))).trans t153).trans g1397.t0)
            refine hOne (i := 18) (by kernel_rfl) rfl (oStoW (cs := TThing.C x0 h0_0) p1563.z s1564 s1565 m1566 Try.sizeOf25 rfl (TThing.C_one _ q1567.one) rfl fun w1568 m1569 g1570 => ?_)
            have cx1571 := cx1398.st g1570 f29
            refine ⟨⟨.inl rfl, .inr fun h => h.g1 g1570 (m27.ne e26), trivial⟩, ?_⟩
            refine hTakeW (i := 19) rfl (by kernel_rfl) (by kernel_rfl) (by kernel_rfl) nrm (cond := fun _ => True) (.inl fun _ => trivial) p1563.z (wN rfl) (fun _ _ => okAs sp1563) trivial rfl fun a1572 p1573 sp1573 => ?_
            have s1574 := p1573.o (p1563.o (p1560.o (p1556.o (p1553.o (p1550.o (p1547.o (p1544.o (p1536.o (p1533.o (p1530.o (p1524.o (p1522.o (p1519.o (p1516.o (p1408.o (p1406.o (p1404.o (p1401.o s1395 rfl) rfl) rfl) rfl) rfl) rfl) rfl) rfl) rfl) rfl) rfl) rfl) rfl) rfl) rfl) rfl) rfl) rfl) rfl
            have s1575 := p1573.o s1564 rfl
            have m1576 := m1399.g1 g1570 (m27.ne e26)
            have m1577 := (m150.g0 g1397).g1 g1570 (m15.ne e26)
            exact hDone (by kernel_rfl) ⟨rfl, p1573.z, s1574, s1575, sp1573, m1576, m1577, m1569, cx1571, (g1397.t0.trans (g1570.t1 (.head _)))⟩
          · have s1578 := bv sp1536 hb1540
            replace h := (ifP hb1540).symm.trans hb1538
            have s1580 := p1536.o (p1533.o (p1530.o (p1524.o (p1522.o (p1519.o (p1516.o (p1408.o (p1406.o (p1404.o (p1401.o (p1214.o (p1211.o (pg919.o (pg520.o (pg167.o s141 rfl) rfl) rfl) rfl) rfl) rfl) rfl) rfl) rfl) rfl) rfl) rfl) rfl) rfl) rfl) rfl
            refine hTakeW (i := 11) rfl (by kernel_rfl) (by kernel_rfl) (by kernel_rfl) nrm (cond := fun _ => True) (.inl fun _ => trivial) p1536.z (wG rfl (yd p1536.z rfl rfl s1578)) (fun _ _ => okMv s1580) trivial rfl fun a1581 p1582 sp1582 => ?_
            have s1583 := p1582.o s1578 rfl
            have s1584 := p1582.o (p1536.o (p1533.o (p1530.o (p1524.o (p1522.o (p1519.o (p1516.o (p1408.o (p1406.o (p1404.o (p1401.o s1395 rfl) rfl) rfl) rfl) rfl) rfl) rfl) rfl) rfl) rfl) rfl) rfl
            refine hTakeW (i := 12) rfl (by kernel_rfl) (by kernel_rfl) (by kernel_rfl) nrm (cond := fun _ => True) (.inl fun _ => trivial) p1582.z (wG rfl (yd p1582.z rfl rfl s1583)) (fun _ _ => okFA (o' := 4) fo25_4 s1584 rfl) trivial rfl fun a1585 p1586 sp1586 => ?_
            have s1587 := p1586.o s1583 rfl
            have s1588 := p1586.o sp1582 rfl
            by_cases hi1589 : 0 ≤ x1 ∧ x1 < 8
            case neg => rw [if_neg hi1589] at h; cases h
            replace h := (if_pos hi1589).symm.trans h
            refine hTakeW (i := 13) rfl (by kernel_rfl) (by kernel_rfl) (by kernel_rfl) nrm (cond := fun _ => True) (.inl fun _ => trivial) p1586.z (wG rfl (yd p1586.z rfl rfl s1587)) (fun _ _ => okIA Try.underlying22 Try.sizeOf3 sp1586 s1588 hi1589) trivial rfl fun a1590 p1591 sp1591 => ?_
            have s1592 := p1591.o s1587 rfl
            refine hTakeW (i := 14) rfl (by kernel_rfl) (by kernel_rfl) (by kernel_rfl) nrm (.inr (.tail _ (.head _))) p1591.z (wG rfl (yd p1591.z rfl rfl s1592)) (fun _ h => okLd (j := 0) na3 sp1591 h rfl rfl) (clD (TThing.C_reads_get _ _ hi1589) m1399.cl) rfl fun a1593 p1594 sp1594 => ?_
            have s1595 := p1594.o s1592 rfl
            refine hTakeW (i := 15) rfl (by kernel_rfl) (by kernel_rfl) (by kernel_rfl) nrm (cond := fun _ => True) (.inl fun _ => trivial) p1594.z (wG rfl (yd p1594.z rfl rfl s1595)) (fun _ _ => okEq sp1594 cst) trivial rfl fun a1596 p1597 sp1597 => ?_
            have s1598 := p1597.o (p1594.o (p1591.o (p1586.o (p1582.o (p1536.o s1534 rfl) rfl) rfl) rfl) rfl) rfl
            have s1599 := p1597.o s1595 rfl
            refine hTakeW (i := 16) rfl (by kernel_rfl) (by kernel_rfl) (by kernel_rfl) nrm (cond := fun _ => True) (.inl fun _ => trivial) p1597.z (wG rfl (yd p1597.z rfl rfl s1598)) (fun _ _ => okPickT s1599 sp1597) trivial rfl fun a1600 p1601 sp1601 => ?_
            obtain rfl := Option.some.inj h
            replace h := hr1539
            have s1602 := p1601.o s1598 rfl
            refine hTakeW (i := 17) rfl (by kernel_rfl) (by kernel_rfl) (by kernel_rfl) nrm (cond := fun _ => True) (.inl fun _ => trivial) p1601.z (wN rfl) (fun _ _ => okPickF s1602 sp1601) trivial rfl fun a1603 p1604 sp1604 => ?_
            obtain rfl := Option.some.inj h
            have s1605 := p1604.o (p1601.o (p1597.o (p1594.o (p1591.o (p1586.o (p1582.o (p1536.o (p1533.o (p1530.o (p1524.o (p1522.o (p1519.o (p1516.o (p1408.o (p1406.o (p1404.o (p1401.o s1396 rfl) rfl) rfl) rfl) rfl) rfl) rfl) rfl) rfl) rfl) rfl) rfl) rfl) rfl) rfl) rfl) rfl) rfl
            have s1606 := p1604.o (p1601.o (p1597.o (p1594.o (p1591.o (p1586.o (p1582.o (p1536.o (p1533.o (p1530.o (p1524.o (p1522.o (p1519.o (p1516.o (p1408.o (p1406.o (p1404.o sp1401 rfl) rfl) rfl) rfl) rfl) rfl) rfl) rfl) rfl) rfl) rfl) rfl) rfl) rfl) rfl) rfl) rfl
            have m1607 := m151.g0 g1397
            have q1608 := qh0_0.mono (((((g6.tA (Nat.le_of_eq e7.symm)).trans (g16.tA (Nat.le_of_eq e17.symm))).trans (g25.tA (Nat.le_of_eq e26.symm))).trans t153).trans g1397.t0)
            refine hOne (i := 18) (by kernel_rfl) rfl (oStoW (cs := TThing.C x0 h0_0) p1604.z s1605 s1606 m1607 Try.sizeOf25 rfl (TThing.C_one _ q1608.one) rfl fun w1609 m1610 g1611 => ?_)
            have cx1612 := cx1398.st g1611 f29
            refine ⟨⟨.inl rfl, .inr fun h => h.g1 g1611 (m27.ne e26), trivial⟩, ?_⟩
            refine hTakeW (i := 19) rfl (by kernel_rfl) (by kernel_rfl) (by kernel_rfl) nrm (cond := fun _ => True) (.inl fun _ => trivial) p1604.z (wN rfl) (fun _ _ => okAs sp1604) trivial rfl fun a1613 p1614 sp1614 => ?_
            have s1615 := p1614.o (p1604.o (p1601.o (p1597.o (p1594.o (p1591.o (p1586.o s1584 rfl) rfl) rfl) rfl) rfl) rfl) rfl
            have s1616 := p1614.o s1605 rfl
            have m1617 := m1399.g1 g1611 (m27.ne e26)
            have m1618 := (m150.g0 g1397).g1 g1611 (m15.ne e26)
            exact hDone (by kernel_rfl) ⟨rfl, p1614.z, s1615, s1616, sp1614, m1617, m1618, m1610, cx1612, (g1397.t0.trans (g1611.t1 (.head _)))⟩
        · have s1619 := bv sp1524 hb1525
          replace h := (ifP (by simp [hb1409, hb1525])).symm.trans hb1264
          refine hSkip (i := 8) rfl (by kernel_rfl) (by kernel_rfl) (by kernel_rfl) nrm rfl p1524.z (yd p1524.z rfl rfl s1619) rfl rfl fun a1621 p1622 sp1622 => ?_
          have s1623 := p1622.o s1619 rfl
          refine hSkip (i := 9) rfl (by kernel_rfl) (by kernel_rfl) (by kernel_rfl) nrm rfl p1622.z (yd p1622.z rfl rfl s1623) rfl rfl fun a1624 p1625 sp1625 => ?_
          have s1626 := p1625.o s1623 rfl
          refine hSkip (i := 10) rfl (by kernel_rfl) (by kernel_rfl) (by kernel_rfl) nrm rfl p1625.z (yd p1625.z rfl rfl s1626) rfl rfl fun a1627 p1628 sp1628 => ?_
          refine hSkip (i := 11) rfl (by kernel_rfl) (by kernel_rfl) (by kernel_rfl) nrm rfl p1628.z (ydU p1628.z rfl rfl sp1628) rfl rfl fun a1629 p1630 sp1630 => ?_
          have s1631 := p1630.o sp1628 rfl
          refine hSkip (i := 12) rfl (by kernel_rfl) (by kernel_rfl) (by kernel_rfl) nrm rfl p1630.z (ydU p1630.z rfl rfl s1631) rfl rfl fun a1632 p1633 sp1633 => ?_
          have s1634 := p1633.o s1631 rfl
          refine hSkip (i := 13) rfl (by kernel_rfl) (by kernel_rfl) (by kernel_rfl) nrm rfl p1633.z (ydU p1633.z rfl rfl s1634) rfl rfl fun a1635 p1636 sp1636 => ?_
          have s1637 := p1636.o s1634 rfl
          refine hSkip (i := 14) rfl (by kernel_rfl) (by kernel_rfl) (by kernel_rfl) nrm rfl p1636.z (ydU p1636.z rfl rfl s1637) rfl rfl fun a1638 p1639 sp1639 => ?_
          have s1640 := p1639.o s1637 rfl
          refine hSkip (i := 15) rfl (by kernel_rfl) (by kernel_rfl) (by kernel_rfl) nrm rfl p1639.z (ydU p1639.z rfl rfl s1640) rfl rfl fun a1641 p1642 sp1642 => ?_
          have s1643 := p1642.o (p1639.o (p1636.o (p1633.o (p1630.o (p1628.o s1626 rfl) rfl) rfl) rfl) rfl) rfl
          refine hSkip (i := 16) rfl (by kernel_rfl) (by kernel_rfl) (by kernel_rfl) nrm rfl p1642.z (yd p1642.z rfl rfl s1643) rfl rfl fun a1644 p1645 sp1645 => ?_
          have s1646 := p1645.o s1643 rfl
          refine hTakeW (i := 17) rfl (by kernel_rfl) (by kernel_rfl) (by kernel_rfl) nrm (cond := fun _ => True) (.inl fun _ => trivial) p1645.z (wN rfl) (fun _ _ => okPickT s1646 cst) trivial rfl fun a1647 p1648 sp1648 => ?_
          obtain rfl := Option.some.inj h
          have s1649 := p1648.o (p1645.o (p1642.o (p1639.o (p1636.o (p1633.o (p1630.o (p1628.o (p1625.o (p1622.o (p1524.o (p1522.o (p1519.o (p1516.o (p1408.o (p1406.o (p1404.o (p1401.o s1396 rfl) rfl) rfl) rfl) rfl) rfl) rfl) rfl) rfl) rfl) rfl) rfl) rfl) rfl) rfl) rfl) rfl) rfl
          have s1650 := p1648.o (p1645.o (p1642.o (p1639.o (p1636.o (p1633.o (p1630.o (p1628.o (p1625.o (p1622.o (p1524.o (p1522.o (p1519.o (p1516.o (p1408.o (p1406.o (p1404.o sp1401 rfl) rfl) rfl) rfl) rfl) rfl) rfl) rfl) rfl) rfl) rfl) rfl) rfl) rfl) rfl) rfl) rfl
          have m1651 := m151.g0 g1397
          have q1652 := qh0_0.mono (((((g6.tA (Nat.le_of_eq e7.symm)).trans (g16.tA (Nat.le_of_eq e17.symm))).trans (g25.tA (Nat.le_of_eq e26.symm))).trans t153).trans g1397.t0)
          refine hOne (i := 18) (by kernel_rfl) rfl (oStoW (cs := TThing.C x0 h0_0) p1648.z s1649 s1650 m1651 Try.sizeOf25 rfl (TThing.C_one _ q1652.one) rfl fun w1653 m1654 g1655 => ?_)
          have cx1656 := cx1398.st g1655 f29
          refine ⟨⟨.inl rfl, .inr fun h => h.g1 g1655 (m27.ne e26), trivial⟩, ?_⟩
          refine hTakeW (i := 19) rfl (by kernel_rfl) (by kernel_rfl) (by kernel_rfl) nrm (cond := fun _ => True) (.inl fun _ => trivial) p1648.z (wN rfl) (fun _ _ => okAs sp1648) trivial rfl fun a1657 p1658 sp1658 => ?_
          have s1659 := p1658.o (p1648.o (p1645.o (p1642.o (p1639.o (p1636.o (p1633.o (p1630.o (p1628.o (p1625.o (p1622.o (p1524.o (p1522.o (p1519.o (p1516.o (p1408.o (p1406.o (p1404.o (p1401.o s1395 rfl) rfl) rfl) rfl) rfl) rfl) rfl) rfl) rfl) rfl) rfl) rfl) rfl) rfl) rfl) rfl) rfl) rfl) rfl
          have s1660 := p1658.o s1649 rfl
          have m1661 := m1399.g1 g1655 (m27.ne e26)
          have m1662 := (m150.g0 g1397).g1 g1655 (m15.ne e26)
          exact hDone (by kernel_rfl) ⟨rfl, p1658.z, s1659, s1660, sp1658, m1661, m1662, m1654, cx1656, (g1397.t0.trans (g1655.t1 (.head _)))⟩
    rintro a1663 w1664 ⟨z1665, s1666, s1667, s1668, m1669, m1670, m1671, cx1672, t1673⟩
    refine thenN ?_
    obtain rfl := Option.some.inj h
    have q1674 := qh0_0.mono (((((g6.tA (Nat.le_of_eq e7.symm)).trans (g16.tA (Nat.le_of_eq e17.symm))).trans (g25.tA (Nat.le_of_eq e26.symm))).trans t153).trans t1673)
    exact wp_ret (blkR (thenR (ret2 z1665 Try.results24 (rvA ag25 s1667 m1671 rfl) (rvT s1668) ⟨_, rfl, h0_0, rfl, (q1674.mono ((Tr.refl _ _).sub (fun i h => (.tail _ (.tail _ (.tail _ h)))))), cx1672.g⟩)))
  replace h := (ifN hb1216).symm.trans h
  refine wp_seq ?_
  refine reg ?_
  have s1675 := p1214.o (p1211.o s918 rfl) rfl
  refine s1 p1214.z (okEq s1675 cst) rfl fun a1676 p1677 s1678 => ?_
  refine s1 p1677.z (okAs s1678) rfl fun a1679 p1680 s1681 => ?_
  refine rN (thenN ?_)
  have pg1682 : Pg _ [134, 135, 154, 155] _ _ := (((((Pg.refl pg919.z).st p1211 rfl).st p1214 rfl).st p1677 rfl).st p1680 rfl)
  refine cnd s1681 (fun hb1683 => ?_) (fun hb1683 => ?_)
  · replace h := (ifP hb1683).symm.trans h
    refine wp_seq ?_
    refine reg ?_
    have s1684 := pg1682.o (pg919.o (pg520.o (pg167.o s142 rfl) rfl) rfl) rfl
    refine s1 pg1682.z (okLdA ag25 s1684 (m149.cl) rfl rfl whole) rfl fun a1685 p1686 s1687 => ?_
    have s1688 := p1686.o (pg1682.o (pg919.o (pg520.o (pg167.o s146 rfl) rfl) rfl) rfl) rfl
    refine s1 p1686.z (okMv s1688) rfl fun a1689 p1690 s1691 => ?_
    refine s1 p1690.z (okEq s1691 cst) rfl fun a1692 p1693 s1694 => ?_
    refine s1 p1693.z (okMv s1694) rfl fun a1695 p1696 s1697 => ?_
    refine cutP 2 (fun a' => Pg Try.f24.ntmps [160, 161] a1695 a' ∧ a'.eval (.tmp 161) = .bool ((x2.value == 0) && (x0.owner == x1))) ?_ ?_
    · rcases bf (x2.value == 0) with hb1698 | hb1698
      · have s1699 := bv s1697 hb1698
        refine s1k p1696.z rfl (yd p1696.z rfl rfl s1699) rfl fun a1700 p1701 s1702 => ?_
        have s1703 := p1701.o s1699 rfl
        refine s1 p1701.z (okPickF s1703 cst) rfl fun a1704 p1705 s1706 => ?_
        exact rN ⟨rfl, rfl, (((Pg.refl p1696.z).st p1701 rfl).st p1705 rfl), (andF hb1698 s1706)⟩
      · have s1707 := bv s1697 hb1698
        have s1708 := p1696.o (p1693.o (p1690.o (p1686.o (pg1682.o (pg919.o (pg520.o (pg167.o s147 rfl) rfl) rfl) rfl) rfl) rfl) rfl) rfl
        refine s1g p1696.z (okMv s1708) rfl (yd p1696.z rfl rfl s1707) fun a1709 p1710 s1711 => ?_
        have s1712 := p1710.o s1707 rfl
        refine s1 p1710.z (okPickT s1712 s1711) rfl fun a1713 p1714 s1715 => ?_
        exact rN ⟨rfl, rfl, (((Pg.refl p1696.z).st p1710 rfl).st p1714 rfl), (andT hb1698 s1715)⟩
    rintro a1716 ⟨pg1717, s1718⟩
    refine s1 pg1717.z (okMv s1718) rfl fun a1719 p1720 s1721 => ?_
    refine cutP 4 (fun a' => Pg Try.f24.ntmps [163, 164, 165, 166] a1719 a' ∧ a'.eval (.tmp 166) = .bool (((x2.value == 0) && (x0.owner == x1)) && (x0.holds == 1000))) ?_ ?_
    · rcases bf ((x2.value == 0) && (x0.owner == x1)) with hb1722 | hb1722
      · have s1723 := bv s1721 hb1722
        refine s1k p1720.z rfl (yd p1720.z rfl rfl s1723) rfl fun a1724 p1725 s1726 => ?_
        have s1727 := p1725.o s1723 rfl
        refine s1k p1725.z rfl (yd p1725.z rfl rfl s1727) rfl fun a1728 p1729 s1730 => ?_
        have s1731 := p1729.o s1727 rfl
        refine s1k p1729.z rfl (yd p1729.z rfl rfl s1731) rfl fun a1732 p1733 s1734 => ?_
        have s1735 := p1733.o s1731 rfl
        refine s1 p1733.z (okPickF s1735 cst) rfl fun a1736 p1737 s1738 => ?_
        exact rN ⟨rfl, rfl, (((((Pg.refl p1720.z).st p1725 rfl).st p1729 rfl).st p1733 rfl).st p1737 rfl), (andF hb1722 s1738)⟩
      · have s1739 := bv s1721 hb1722
        have s1740 := p1720.o (pg1717.o (p1696.o (p1693.o (p1690.o (p1686.o s1684 rfl) rfl) rfl) rfl) rfl) rfl
        refine s1g p1720.z (okFA (o' := 3) fo25_3 s1740 rfl) rfl (yd p1720.z rfl rfl s1739) fun a1741 p1742 s1743 => ?_
        have s1744 := p1742.o s1739 rfl
        refine s1g p1742.z (okLd (j := 3) na3 s1743 (m149.cl) rfl rfl) rfl (yd p1742.z rfl rfl s1744) fun a1745 p1746 s1747 => ?_
        have s1748 := p1746.o s1744 rfl
        refine s1g p1746.z (okEq s1747 cst) rfl (yd p1746.z rfl rfl s1748) fun a1749 p1750 s1751 => ?_
        have s1752 := p1750.o s1748 rfl
        refine s1 p1750.z (okPickT s1752 s1751) rfl fun a1753 p1754 s1755 => ?_
        exact rN ⟨rfl, rfl, (((((Pg.refl p1720.z).st p1742 rfl).st p1746 rfl).st p1750 rfl).st p1754 rfl), (andT hb1722 s1755)⟩
    rintro a1756 ⟨pg1757, s1758⟩
    refine s1 pg1757.z (okMv s1758) rfl fun a1759 p1760 s1761 => ?_
    refine cutP 7 (fun a' => Pg Try.f24.ntmps [168, 169, 170, 171, 172, 173, 174] a1759 a' ∧ a'.eval (.tmp 174) = .bool ((((x2.value == 0) && (x0.owner == x1)) && (x0.holds == 1000)) || ((x2.value == 1) && (t62 == 1000)))) ?_ ?_
    · rcases bf (((x2.value == 0) && (x0.owner == x1)) && (x0.holds == 1000)) with hb1762 | hb1762
      · have s1763 := bv s1761 hb1762
        have s1764 := p1760.o (pg1757.o (p1720.o (pg1717.o (p1696.o (p1693.o (p1690.o s1688 rfl) rfl) rfl) rfl) rfl) rfl) rfl
        refine s1g p1760.z (okMv s1764) rfl (yd p1760.z rfl rfl s1763) fun a1765 p1766 s1767 => ?_
        have s1768 := p1766.o s1763 rfl
        refine s1g p1766.z (okEq s1767 cst) rfl (yd p1766.z rfl rfl s1768) fun a1769 p1770 s1771 => ?_
        have s1772 := p1770.o s1768 rfl
        refine s1g p1770.z (okMv s1771) rfl (yd p1770.z rfl rfl s1772) fun a1773 p1774 s1775 => ?_
        refine cutP 3 (fun a' => Pg Try.f24.ntmps [171, 172, 173] a1773 a' ∧ a'.eval (.tmp 173) = .bool ((x2.value == 1) && (t62 == 1000))) ?_ ?_
        · rcases bf (x2.value == 1) with hb1776 | hb1776
          · have s1777 := bv s1775 hb1776
            refine s1k p1774.z rfl (yd p1774.z rfl rfl s1777) rfl fun a1778 p1779 s1780 => ?_
            have s1781 := p1779.o s1777 rfl
            refine s1k p1779.z rfl (yd p1779.z rfl rfl s1781) rfl fun a1782 p1783 s1784 => ?_
            have s1785 := p1783.o (p1779.o (p1774.o s1772 rfl) rfl) rfl
            have s1786 := p1783.o s1781 rfl
            refine s1g p1783.z (okPickF s1786 cst) rfl (yd p1783.z rfl rfl s1785) fun a1787 p1788 s1789 => ?_
            exact rN ⟨rfl, rfl, ((((Pg.refl p1774.z).st p1779 rfl).st p1783 rfl).st p1788 rfl), (andF hb1776 s1789)⟩
          · have s1790 := bv s1775 hb1776
            have s1791 := p1774.o (p1770.o (p1766.o (p1760.o (pg1757.o (p1720.o (pg1717.o (p1696.o (p1693.o (p1690.o (p1686.o (pg1682.o (pg919.o (pg520.o (pg167.o s148 rfl) rfl) rfl) rfl) rfl) rfl) rfl) rfl) rfl) rfl) rfl) rfl) rfl) rfl) rfl
            refine s1g p1774.z (okMv s1791) rfl (yd p1774.z rfl rfl s1790) fun a1792 p1793 s1794 => ?_
            have s1795 := p1793.o s1790 rfl
            refine s1g p1793.z (okEq s1794 cst) rfl (yd p1793.z rfl rfl s1795) fun a1796 p1797 s1798 => ?_
            have s1799 := p1797.o (p1793.o (p1774.o s1772 rfl) rfl) rfl
            have s1800 := p1797.o s1795 rfl
            refine s1g p1797.z (okPickT s1800 s1798) rfl (yd p1797.z rfl rfl s1799) fun a1801 p1802 s1803 => ?_
            exact rN ⟨rfl, rfl, ((((Pg.refl p1774.z).st p1793 rfl).st p1797 rfl).st p1802 rfl), (andT hb1776 s1803)⟩
        rintro a1804 ⟨pg1805, s1806⟩
        have s1807 := pg1805.o (p1774.o s1772 rfl) rfl
        refine s1 pg1805.z (okPickF s1807 s1806) rfl fun a1808 p1809 s1810 => ?_
        exact rN ⟨rfl, rfl, ((((((Pg.refl p1760.z).st p1766 rfl).st p1770 rfl).st p1774 rfl).tr pg1805 rfl).st p1809 rfl), (orF hb1762 s1810)⟩
      · have s1811 := bv s1761 hb1762
        refine s1k p1760.z rfl (yd p1760.z rfl rfl s1811) rfl fun a1812 p1813 s1814 => ?_
        have s1815 := p1813.o s1811 rfl
        refine s1k p1813.z rfl (yd p1813.z rfl rfl s1815) rfl fun a1816 p1817 s1818 => ?_
        have s1819 := p1817.o s1815 rfl
        refine s1k p1817.z rfl (yd p1817.z rfl rfl s1819) rfl fun a1820 p1821 s1822 => ?_
        refine s1k p1821.z rfl (ydU p1821.z rfl rfl s1822) rfl fun a1823 p1824 s1825 => ?_
        have s1826 := p1824.o s1822 rfl
        refine s1k p1824.z rfl (ydU p1824.z rfl rfl s1826) rfl fun a1827 p1828 s1829 => ?_
        have s1830 := p1828.o (p1824.o (p1821.o s1819 rfl) rfl) rfl
        refine s1k p1828.z rfl (yd p1828.z rfl rfl s1830) rfl fun a1831 p1832 s1833 => ?_
        have s1834 := p1832.o s1830 rfl
        refine s1 p1832.z (okPickT s1834 cst) rfl fun a1835 p1836 s1837 => ?_
        exact rN ⟨rfl, rfl, ((((((((Pg.refl p1760.z).st p1813 rfl).st p1817 rfl).st p1821 rfl).st p1824 rfl).st p1828 rfl).st p1832 rfl).st p1836 rfl), (orT hb1762 s1837)⟩
    rintro a1838 ⟨pg1839, s1840⟩
    have s1841 := pg1839.o (p1760.o (pg1757.o (p1720.o (pg1717.o (p1696.o (p1693.o (p1690.o (p1686.o (pg1682.o (pg919.o (pg520.o (pg167.o s144 rfl) rfl) rfl) rfl) rfl) rfl) rfl) rfl) rfl) rfl) rfl) rfl) rfl
    have s1842 := pg1839.o (p1760.o (pg1757.o (p1720.o (pg1717.o (p1696.o (p1693.o (p1690.o s1687 rfl) rfl) rfl) rfl) rfl) rfl) rfl) rfl
    have q1843 := qh0_0.mono ((((g6.tA (Nat.le_of_eq e7.symm)).trans (g16.tA (Nat.le_of_eq e17.symm))).trans (g25.tA (Nat.le_of_eq e26.symm))).trans t153)
    refine lS (oStoW (cs := TThing.C x0 h0_0) pg1839.z s1841 s1842 m151 Try.sizeOf25 rfl (TThing.C_one _ q1843.one) rfl fun w1844 m1845 g1846 => ?_)
    have cx1847 := cx152.st g1846 f29
    refine s1 pg1839.z (okAs s1840) rfl fun a1848 p1849 s1850 => ?_
    refine rN (thenN ?_)
    have s1851 := p1849.o s1841 rfl
    obtain rfl := Option.some.inj h
    have q1852 := q1843.mono (g1846.t1 (.head _))
    exact wp_ret (blkR (thenR (ret2 p1849.z Try.results24 (rvA ag25 s1851 m1845 rfl) (rvT s1850) ⟨_, rfl, h0_0, rfl, (q1852.mono ((Tr.refl _ _).sub (fun i h => (.tail _ (.tail _ (.tail _ h)))))), cx1847.g⟩)))
  replace h := (ifN hb1683).symm.trans h
  refine wp_skip (blkN (thenN ?_))
  refine wp_seq ?_
  refine reg ?_
  have s1853 := pg1682.o (pg919.o (pg520.o (pg167.o s142 rfl) rfl) rfl) rfl
  refine s1 pg1682.z (okLdA ag25 s1853 (m149.cl) rfl rfl whole) rfl fun a1854 p1855 s1856 => ?_
  have s1857 := p1855.o (pg1682.o (pg919.o (pg520.o (pg167.o s144 rfl) rfl) rfl) rfl) rfl
  have q1858 := qh0_0.mono ((((g6.tA (Nat.le_of_eq e7.symm)).trans (g16.tA (Nat.le_of_eq e17.symm))).trans (g25.tA (Nat.le_of_eq e26.symm))).trans t153)
  refine lS (oStoW (cs := TThing.C x0 h0_0) p1855.z s1857 s1856 m151 Try.sizeOf25 rfl (TThing.C_one _ q1858.one) rfl fun w1859 m1860 g1861 => ?_)
  have cx1862 := cx152.st g1861 f29
  refine s1 p1855.z (okAs cst) rfl fun a1863 p1864 s1865 => ?_
  refine rN (thenN ?_)
  have s1866 := p1864.o s1857 rfl
  obtain rfl := Option.some.inj h
  have q1867 := q1858.mono (g1861.t1 (.head _))
  exact wp_ret (ret2 p1864.z Try.results24 (rvA ag25 s1866 m1860 rfl) (rvT s1865) ⟨_, rfl, h0_0, rfl, (q1867.mono ((Tr.refl _ _).sub (fun i h => (.tail _ (.tail _ (.tail _ h)))))), cx1862.g⟩)

set_option maxHeartbeats 4000000 in
theorem c25 (L : List Nat) (w : World) (hL : ∀ b ∈ L, b < w.heap.size) (x0 : TThing) (h0_0 : Value) (qh0_0 : RdS KTWaiter L w h0_0 x0.waiters) (x1 : Int) (x2 : TNote) (r : TThing × Bool) (h : model_swap x0 x1 x2 = some r) : Calls Try.prog 25 #[.agg (TThing.C x0 h0_0).toArray, .int .i64 x1, .agg (TNote.C x2).toArray] w (fun e w' => ∃ v, e = .returned v ∧ ∃ u_0, v = .tuple #[.agg (TThing.C r.1 u_0).toArray, .bool r.2] ∧ RdS KTWaiter L w' u_0 r.1.waiters ∧ G [] w w') := by
  refine enterF Try.func25 rfl rfl fun a0 z0 A => ?_
  have s0_0 := A 0 (.agg (TThing.C x0 h0_0).toArray) rfl
  have s0_1 := A 1 (.int .i64 x1) rfl
  have s0_2 := A 2 (.agg (TNote.C x2).toArray) rfl
  clear A
  have c0 : Cx [] w L w := ⟨G.refl _ _, hL⟩
  unfold model_swap at h
  refine wp_seq ?_
  refine reg ?_
  refine lS (oBox (l := TThing.C x0 h0_0) z0 s0_0 rfl rfl fun a1 w2 b3 p4 sp4 m5 g6 e7 => ?_)
  have f9 := c0.nw e7
  have cx8 := c0.al g6 m5
  have s10 := p4.o s0_2 rfl
  refine lS (oBox (l := TNote.C x2) p4.z s10 rfl rfl fun a11 w12 b13 p14 sp14 m15 g16 e17 => ?_)
  have f19 := cx8.nw e17
  have cx18 := cx8.al g16 m15
  have m27 := m5.g0 g16
  refine lS (oAlloc zv25 p14.z rfl fun a20 w21 b22 p23 sp23 m24 g25 e26 => ?_)
  have f29 := cx18.nw e26
  have cx28 := cx18.al g25 m24
  refine s1 p23.z (okAs cst) rfl fun a30 p31 s32 => ?_
  refine rN (thenN ?_)
  refine wp_seq ?_
  refine wp_seq ?_
  refine reg ?_
  have s33 := p31.o (p23.o sp14 rfl) rfl
  refine s1 p31.z (okFA (o' := 0) fo29_0 s33 rfl) rfl fun a34 p35 s36 => ?_
  have m37 := m15.g0 g25
  refine s1 p35.z (okLd (j := 0) na3 s36 (m37.cl) rfl rfl) rfl fun a38 p39 s40 => ?_
  refine rN (thenN ?_)
  refine wp_block ?_
  refine wp_seq ?_
  refine reg ?_
  refine s1 p39.z (okEq s40 cst) rfl fun a41 p42 s43 => ?_
  refine s1 p42.z (okAs s43) rfl fun a44 p45 s46 => ?_
  refine rN (thenN ?_)
  have s47 := p45.o (p42.o (p39.o (p35.o (p31.o (p23.o (p14.o sp4 rfl) rfl) rfl) rfl) rfl) rfl) rfl
  have s48 := p45.o (p42.o (p39.o (p35.o s33 rfl) rfl) rfl) rfl
  have s49 := p45.o (p42.o (p39.o (p35.o (p31.o sp23 rfl) rfl) rfl) rfl) rfl
  have s50 := p45.o (p42.o (p39.o (p35.o s32 rfl) rfl) rfl) rfl
  have s51 := p45.o (p42.o s40 rfl) rfl
  have pg52 : Pg _ [3, 5, 6, 7, 10, 11, 12, 13] _ _ := (((((((((Pg.refl z0).st p4 rfl).st p14 rfl).st p23 rfl).st p31 rfl).st p35 rfl).st p39 rfl).st p42 rfl).st p45 rfl)
  refine cnd s46 (fun hb53 => ?_) (fun hb53 => ?_)
  · replace h := (ifP hb53).symm.trans h
    refine wp_seq ?_
    refine wp_seq ?_
    refine reg ?_
    refine s1 pg52.z (okFA (o' := 13) fo25_6 s47 rfl) rfl fun a54 p55 s56 => ?_
    have m57 := m27.g0 g25
    refine s1 p55.z (okLd (j := 13) na3 s56 (m57.cl) rfl rfl) rfl fun a58 p59 s60 => ?_
    refine s1 p59.z (okNe s60 cst) rfl fun a61 p62 s63 => ?_
    refine s1 p62.z (okMv s63) rfl fun a64 p65 s66 => ?_
    refine cutP 4 (fun a' => Pg Try.f25.ntmps [18, 19, 20, 21] a64 a' ∧ a'.eval (.tmp 21) = .bool ((x0.offer != (-1)) || (decide (x2.value < 0)))) ?_ ?_
    · rcases bf (x0.offer != (-1)) with hb67 | hb67
      · have s68 := bv s66 hb67
        have s69 := p65.o (p62.o (p59.o (p55.o s48 rfl) rfl) rfl) rfl
        refine s1g p65.z (okFA (o' := 1) fo29_1 s69 rfl) rfl (yd p65.z rfl rfl s68) fun a70 p71 s72 => ?_
        have s73 := p71.o s68 rfl
        refine s1g p71.z (okLd (j := 1) na2 s72 (m37.cl) rfl rfl) rfl (yd p71.z rfl rfl s73) fun a74 p75 s76 => ?_
        have s77 := p75.o s73 rfl
        refine s1g p75.z (okLt s76 cst) rfl (yd p75.z rfl rfl s77) fun a78 p79 s80 => ?_
        have s81 := p79.o s77 rfl
        refine s1 p79.z (okPickF s81 s80) rfl fun a82 p83 s84 => ?_
        exact rN ⟨rfl, rfl, (((((Pg.refl p65.z).st p71 rfl).st p75 rfl).st p79 rfl).st p83 rfl), (orF hb67 s84)⟩
      · have s85 := bv s66 hb67
        refine s1k p65.z rfl (yd p65.z rfl rfl s85) rfl fun a86 p87 s88 => ?_
        have s89 := p87.o s85 rfl
        refine s1k p87.z rfl (yd p87.z rfl rfl s89) rfl fun a90 p91 s92 => ?_
        have s93 := p91.o s89 rfl
        refine s1k p91.z rfl (yd p91.z rfl rfl s93) rfl fun a94 p95 s96 => ?_
        have s97 := p95.o s93 rfl
        refine s1 p95.z (okPickT s97 cst) rfl fun a98 p99 s100 => ?_
        exact rN ⟨rfl, rfl, (((((Pg.refl p65.z).st p87 rfl).st p91 rfl).st p95 rfl).st p99 rfl), (orT hb67 s100)⟩
    rintro a101 ⟨pg102, s103⟩
    refine s1 pg102.z (okMv s103) rfl fun a104 p105 s106 => ?_
    refine cutP 4 (fun a' => Pg Try.f25.ntmps [23, 24, 25, 26] a104 a' ∧ a'.eval (.tmp 26) = .bool (((x0.offer != (-1)) || (decide (x2.value < 0))) || (decide (1000 < x2.value)))) ?_ ?_
    · rcases bf ((x0.offer != (-1)) || (decide (x2.value < 0))) with hb107 | hb107
      · have s108 := bv s106 hb107
        have s109 := p105.o (pg102.o (p65.o (p62.o (p59.o (p55.o s48 rfl) rfl) rfl) rfl) rfl) rfl
        refine s1g p105.z (okFA (o' := 1) fo29_1 s109 rfl) rfl (yd p105.z rfl rfl s108) fun a110 p111 s112 => ?_
        have s113 := p111.o s108 rfl
        refine s1g p111.z (okLd (j := 1) na2 s112 (m37.cl) rfl rfl) rfl (yd p111.z rfl rfl s113) fun a114 p115 s116 => ?_
        have s117 := p115.o s113 rfl
        refine s1g p115.z (okGt s116 cst) rfl (yd p115.z rfl rfl s117) fun a118 p119 s120 => ?_
        have s121 := p119.o s117 rfl
        refine s1 p119.z (okPickF s121 s120) rfl fun a122 p123 s124 => ?_
        exact rN ⟨rfl, rfl, (((((Pg.refl p105.z).st p111 rfl).st p115 rfl).st p119 rfl).st p123 rfl), (orF hb107 s124)⟩
      · have s125 := bv s106 hb107
        refine s1k p105.z rfl (yd p105.z rfl rfl s125) rfl fun a126 p127 s128 => ?_
        have s129 := p127.o s125 rfl
        refine s1k p127.z rfl (yd p127.z rfl rfl s129) rfl fun a130 p131 s132 => ?_
        have s133 := p131.o s129 rfl
        refine s1k p131.z rfl (yd p131.z rfl rfl s133) rfl fun a134 p135 s136 => ?_
        have s137 := p135.o s133 rfl
        refine s1 p135.z (okPickT s137 cst) rfl fun a138 p139 s140 => ?_
        exact rN ⟨rfl, rfl, (((((Pg.refl p105.z).st p127 rfl).st p131 rfl).st p135 rfl).st p139 rfl), (orT hb107 s140)⟩
    rintro a141 ⟨pg142, s143⟩
    refine rN (thenN ?_)
    have pg144 : Pg _ [14, 15, 16, 17, 18, 19, 20, 21, 22, 23, 24, 25, 26] _ _ := ((((((((Pg.refl pg52.z).st p55 rfl).st p59 rfl).st p62 rfl).st p65 rfl).tr pg102 rfl).st p105 rfl).tr pg142 rfl)
    refine cnd s143 (fun hb145 => ?_) (fun hb145 => ?_)
    · replace h := (ifP hb145).symm.trans h
      refine wp_seq ?_
      refine reg ?_
      have s146 := pg144.o s47 rfl
      refine s1 pg144.z (okLdA ag25 s146 (m57.cl) rfl rfl whole) rfl fun a147 p148 s149 => ?_
      have s150 := p148.o (pg144.o s49 rfl) rfl
      have q151 := qh0_0.mono (((g6.tA (Nat.le_of_eq e7.symm)).trans (g16.tA (Nat.le_of_eq e17.symm))).trans (g25.tA (Nat.le_of_eq e26.symm)))
      refine lS (oStoW (cs := TThing.C x0 h0_0) p148.z s150 s149 m24 Try.sizeOf25 rfl (TThing.C_one _ q151.one) rfl fun w152 m153 g154 => ?_)
      have cx155 := cx28.st g154 f29
      refine s1 p148.z (okAs cst) rfl fun a156 p157 s158 => ?_
      refine rN (thenN ?_)
      have s159 := p157.o s150 rfl
      obtain rfl := Option.some.inj h
      have q160 := q151.mono (g154.t1 (.head _))
      exact wp_ret (thenR (blkR (thenR (ret2 p157.z Try.results25 (rvA ag25 s159 m153 rfl) (rvT s158) ⟨_, rfl, h0_0, rfl, (q160.mono ((Tr.refl _ _).sub (fun i h => (.tail _ (.tail _ (.tail _ h)))))), cx155.g⟩))))
    replace h := (ifN hb145).symm.trans h
    refine wp_skip (thenN ?_)
    refine wp_seq ?_
    have s190 := pg144.o s47 rfl
    have s191 := pg144.o s49 rfl
    have s192 := pg144.o s50 rfl
    refine regJ (fun a' w' => Z Try.f25.ntmps a' ∧ a'.eval (.tmp 3) = ptr b3 0 ∧ a'.eval (.tmp 6) = ptr b22 0 ∧ a'.eval (.tmp 7) = .bool false ∧ Bk w' b3 (TThing.C ({ x0 with offer := x1, item := x2.value }) h0_0) 25 ∧ Bk w' b13 (TNote.C x2) 29 ∧ Bk w' b22 (TThing.C (⟨0, 0, 0, 0, Arr8.zero, [], 0, 0⟩ : TThing) (.slice none 0 0)) 25 ∧ Cx [] w (b22 :: b13 :: b3 :: L) w' ∧ Tr (b22 :: b13 :: b3 :: L) w21 (b22 :: b13 :: b3 :: L) w') ?_ ?_
    · refine regH (n := 7) [(2, fun w' => Cl w' b13 1 [.int .i64 x2.value])] mixed rfl ?_
      have g193 := G.drew w21
      have cx194 := cx28.ca g193
      have s195 := pg144.o (pg52.o s0_1 rfl) rfl
      refine hTakeW (i := 0) rfl (by kernel_rfl) (by kernel_rfl) (by kernel_rfl) nrm (cond := fun _ => True) (.inl fun _ => trivial) pg144.z (wN rfl) (fun _ _ => okMv s195) trivial rfl fun a196 p197 sp197 => ?_
      have s198 := p197.o (pg144.o s48 rfl) rfl
      refine hTakeW (i := 1) rfl (by kernel_rfl) (by kernel_rfl) (by kernel_rfl) nrm (cond := fun _ => True) (.inl fun _ => trivial) p197.z (wN rfl) (fun _ _ => okFA (o' := 1) fo29_1 s198 rfl) trivial rfl fun a199 p200 sp200 => ?_
      have m201 := m37.g0 g193
      refine hTakeW (i := 2) rfl (by kernel_rfl) (by kernel_rfl) (by kernel_rfl) nrm (.inr (.head _)) p200.z (wN rfl) (fun _ h => okLd (j := 0) na2 sp200 h rfl rfl) (m201.clp rfl) rfl fun a202 p203 sp203 => ?_
      have s204 := p203.o (p200.o (p197.o s190 rfl) rfl) rfl
      refine hTakeW (i := 3) rfl (by kernel_rfl) (by kernel_rfl) (by kernel_rfl) nrm (cond := fun _ => True) (.inl fun _ => trivial) p203.z (wN rfl) (fun _ _ => okFA (o' := 13) fo25_6 s204 rfl) trivial rfl fun a205 p206 sp206 => ?_
      have s207 := p206.o (p203.o (p200.o sp197 rfl) rfl) rfl
      have m208 := m57.g0 g193
      refine hOne (i := 4) (by kernel_rfl) rfl (oSto (cs := [.int .i64 x1]) (l' := TThing.C ({ x0 with offer := x1 }) h0_0) p206.z sp206 s207 m208 Try.sizeOf3 rfl one1 rfl rfl fun w209 m210 g211 => ?_)
      have cx212 := cx194.st g211 f9
      refine ⟨⟨.inr fun h => h.g1 g211 (m5.ne e17).symm, trivial⟩, ?_⟩
      have s213 := p206.o s204 rfl
      refine hTakeW (i := 5) rfl (by kernel_rfl) (by kernel_rfl) (by kernel_rfl) nrm (cond := fun _ => True) (.inl fun _ => trivial) p206.z (wN rfl) (fun _ _ => okFA (o' := 14) fo25_7 s213 rfl) trivial rfl fun a214 p215 sp215 => ?_
      have s216 := p215.o (p206.o sp203 rfl) rfl
      refine hOne (i := 6) (by kernel_rfl) rfl (oSto (cs := [.int .i64 x2.value]) (l' := TThing.C ({ x0 with offer := x1, item := x2.value }) h0_0) p215.z sp215 s216 m210 Try.sizeOf3 rfl one1 rfl rfl fun w217 m218 g219 => ?_)
      have cx220 := cx212.st g219 f9
      refine ⟨⟨.inl rfl, trivial⟩, ?_⟩
      have s221 := p215.o s213 rfl
      have s222 := p215.o (p206.o (p203.o (p200.o (p197.o s191 rfl) rfl) rfl) rfl) rfl
      have s223 := p215.o (p206.o (p203.o (p200.o (p197.o s192 rfl) rfl) rfl) rfl) rfl
      have m224 := (m201.g1 g211 (m5.ne e17).symm).g1 g219 (m5.ne e17).symm
      have m225 := ((m24.g0 g193).g1 g211 (m27.ne e26).symm).g1 g219 (m27.ne e26).symm
      exact hDone (by kernel_rfl) ⟨rfl, p215.z, s221, s222, s223, m218, m224, m225, cx220, ((g193.t0.trans (g211.t1 (.tail _ (.tail _ (.head _))))).trans (g219.t1 (.tail _ (.tail _ (.head _)))))⟩
    rintro a226 w227 ⟨z228, s229, s230, s231, m232, m233, m234, cx235, t236⟩
    refine thenN ?_
    refine wp_seq ?_
    refine reg ?_
    refine s1 z228 (okLdA ag25 s229 (m232.cl) rfl rfl whole) rfl fun a237 p238 s239 => ?_
    have s240 := p238.o s230 rfl
    have q241 := qh0_0.mono ((((g6.tA (Nat.le_of_eq e7.symm)).trans (g16.tA (Nat.le_of_eq e17.symm))).trans (g25.tA (Nat.le_of_eq e26.symm))).trans t236)
    refine lS (oStoW (cs := TThing.C ({ x0 with offer := x1, item := x2.value }) h0_0) p238.z s240 s239 m234 Try.sizeOf25 rfl (TThing.C_one _ q241.one) rfl fun w242 m243 g244 => ?_)
    have cx245 := cx235.st g244 f29
    refine s1 p238.z (okAs cst) rfl fun a246 p247 s248 => ?_
    refine rN (thenN ?_)
    have s249 := p247.o s240 rfl
    obtain rfl := Option.some.inj h
    have q250 := q241.mono (g244.t1 (.head _))
    exact wp_ret (blkR (thenR (ret2 p247.z Try.results25 (rvA ag25 s249 m243 rfl) (rvT s248) ⟨_, rfl, h0_0, rfl, (q250.mono ((Tr.refl _ _).sub (fun i h => (.tail _ (.tail _ (.tail _ h)))))), cx245.g⟩)))
  replace h := (ifN hb53).symm.trans h
  refine wp_seq ?_
  refine reg ?_
  refine s1 pg52.z (okEq s51 cst) rfl fun a251 p252 s253 => ?_
  refine s1 p252.z (okAs s253) rfl fun a254 p255 s256 => ?_
  refine rN (thenN ?_)
  refine cnd s256 (fun hb257 => ?_) (fun hb257 => ?_)
  · replace h := (ifP hb257).symm.trans h
    refine wp_seq ?_
    refine reg ?_
    have s258 := p255.o (p252.o s47 rfl) rfl
    refine s1 p255.z (okFA (o' := 13) fo25_6 s258 rfl) rfl fun a259 p260 s261 => ?_
    have m262 := m27.g0 g25
    refine s1 p260.z (okLd (j := 13) na3 s261 (m262.cl) rfl rfl) rfl fun a263 p264 s265 => ?_
    refine s1 p264.z (okNe s265 cst) rfl fun a266 p267 s268 => ?_
    refine s1 p267.z (okMv s268) rfl fun a269 p270 s271 => ?_
    refine cutP 5 (fun a' => Pg Try.f25.ntmps [40, 41, 42, 43, 44] a269 a' ∧ a'.eval (.tmp 44) = .bool ((x0.offer != (-1)) && (x0.offer != x1))) ?_ ?_
    · rcases bf (x0.offer != (-1)) with hb272 | hb272
      · have s273 := bv s271 hb272
        refine s1k p270.z rfl (yd p270.z rfl rfl s273) rfl fun a274 p275 s276 => ?_
        have s277 := p275.o s273 rfl
        refine s1k p275.z rfl (yd p275.z rfl rfl s277) rfl fun a278 p279 s280 => ?_
        have s281 := p279.o s277 rfl
        refine s1k p279.z rfl (yd p279.z rfl rfl s281) rfl fun a282 p283 s284 => ?_
        have s285 := p283.o s281 rfl
        refine s1k p283.z rfl (yd p283.z rfl rfl s285) rfl fun a286 p287 s288 => ?_
        have s289 := p287.o s285 rfl
        refine s1 p287.z (okPickF s289 cst) rfl fun a290 p291 s292 => ?_
        exact rN ⟨rfl, rfl, ((((((Pg.refl p270.z).st p275 rfl).st p279 rfl).st p283 rfl).st p287 rfl).st p291 rfl), (andF hb272 s292)⟩
      · have s293 := bv s271 hb272
        have s294 := p270.o (p267.o (p264.o (p260.o s258 rfl) rfl) rfl) rfl
        refine s1g p270.z (okFA (o' := 13) fo25_6 s294 rfl) rfl (yd p270.z rfl rfl s293) fun a295 p296 s297 => ?_
        have s298 := p296.o s293 rfl
        refine s1g p296.z (okLd (j := 13) na3 s297 (m262.cl) rfl rfl) rfl (yd p296.z rfl rfl s298) fun a299 p300 s301 => ?_
        have s302 := p300.o s298 rfl
        have s303 := p300.o (p296.o (p270.o (p267.o (p264.o (p260.o (p255.o (p252.o (pg52.o s0_1 rfl) rfl) rfl) rfl) rfl) rfl) rfl) rfl) rfl
        refine s1g p300.z (okMv s303) rfl (yd p300.z rfl rfl s302) fun a304 p305 s306 => ?_
        have s307 := p305.o s302 rfl
        have s308 := p305.o s301 rfl
        refine s1g p305.z (okNe s308 s306) rfl (yd p305.z rfl rfl s307) fun a309 p310 s311 => ?_
        have s312 := p310.o s307 rfl
        refine s1 p310.z (okPickT s312 s311) rfl fun a313 p314 s315 => ?_
        exact rN ⟨rfl, rfl, ((((((Pg.refl p270.z).st p296 rfl).st p300 rfl).st p305 rfl).st p310 rfl).st p314 rfl), (andT hb272 s315)⟩
    rintro a316 ⟨pg317, s318⟩
    refine s1 pg317.z (okMv s318) rfl fun a319 p320 s321 => ?_
    refine cutP 6 (fun a' => Pg Try.f25.ntmps [46, 47, 48, 49, 50, 51] a319 a' ∧ a'.eval (.tmp 51) = .bool (((x0.offer != (-1)) && (x0.offer != x1)) && (x2.value == x0.offer))) ?_ ?_
    · rcases bf ((x0.offer != (-1)) && (x0.offer != x1)) with hb322 | hb322
      · have s323 := bv s321 hb322
        refine s1k p320.z rfl (yd p320.z rfl rfl s323) rfl fun a324 p325 s326 => ?_
        have s327 := p325.o s323 rfl
        refine s1k p325.z rfl (yd p325.z rfl rfl s327) rfl fun a328 p329 s330 => ?_
        have s331 := p329.o s327 rfl
        refine s1k p329.z rfl (yd p329.z rfl rfl s331) rfl fun a332 p333 s334 => ?_
        have s335 := p333.o s331 rfl
        refine s1k p333.z rfl (yd p333.z rfl rfl s335) rfl fun a336 p337 s338 => ?_
        have s339 := p337.o s335 rfl
        refine s1k p337.z rfl (yd p337.z rfl rfl s339) rfl fun a340 p341 s342 => ?_
        have s343 := p341.o s339 rfl
        refine s1 p341.z (okPickF s343 cst) rfl fun a344 p345 s346 => ?_
        exact rN ⟨rfl, rfl, (((((((Pg.refl p320.z).st p325 rfl).st p329 rfl).st p333 rfl).st p337 rfl).st p341 rfl).st p345 rfl), (andF hb322 s346)⟩
      · have s347 := bv s321 hb322
        have s348 := p320.o (pg317.o (p270.o (p267.o (p264.o (p260.o (p255.o (p252.o s48 rfl) rfl) rfl) rfl) rfl) rfl) rfl) rfl
        refine s1g p320.z (okFA (o' := 1) fo29_1 s348 rfl) rfl (yd p320.z rfl rfl s347) fun a349 p350 s351 => ?_
        have s352 := p350.o s347 rfl
        refine s1g p350.z (okLd (j := 1) na2 s351 (m37.cl) rfl rfl) rfl (yd p350.z rfl rfl s352) fun a353 p354 s355 => ?_
        have s356 := p354.o s352 rfl
        have s357 := p354.o (p350.o (p320.o (pg317.o (p270.o (p267.o (p264.o (p260.o s258 rfl) rfl) rfl) rfl) rfl) rfl) rfl) rfl
        refine s1g p354.z (okFA (o' := 13) fo25_6 s357 rfl) rfl (yd p354.z rfl rfl s356) fun a358 p359 s360 => ?_
        have s361 := p359.o s356 rfl
        refine s1g p359.z (okLd (j := 13) na3 s360 (m262.cl) rfl rfl) rfl (yd p359.z rfl rfl s361) fun a362 p363 s364 => ?_
        have s365 := p363.o s361 rfl
        have s366 := p363.o (p359.o s355 rfl) rfl
        refine s1g p363.z (okEq s366 s364) rfl (yd p363.z rfl rfl s365) fun a367 p368 s369 => ?_
        have s370 := p368.o s365 rfl
        refine s1 p368.z (okPickT s370 s369) rfl fun a371 p372 s373 => ?_
        exact rN ⟨rfl, rfl, (((((((Pg.refl p320.z).st p350 rfl).st p354 rfl).st p359 rfl).st p363 rfl).st p368 rfl).st p372 rfl), (andT hb322 s373)⟩
    rintro a374 ⟨pg375, s376⟩
    refine s1 pg375.z (okAs s376) rfl fun a377 p378 s379 => ?_
    refine rN (thenN ?_)
    refine wp_seq ?_
    refine reg ?_
    have s380 := p378.o (pg375.o (p320.o (pg317.o (p270.o (p267.o (p264.o (p260.o s258 rfl) rfl) rfl) rfl) rfl) rfl) rfl) rfl
    refine s1 p378.z (okFA (o' := 13) fo25_6 s380 rfl) rfl fun a381 p382 s383 => ?_
    refine lS (oSto (cs := [.int .i64 (-1)]) (l' := TThing.C ({ x0 with offer := (-1) }) h0_0) p382.z s383 cst m262 Try.sizeOf3 rfl one1 rfl rfl fun w384 m385 g386 => ?_)
    have cx387 := cx28.st g386 f9
    have s388 := p382.o s380 rfl
    refine s1 p382.z (okFA (o' := 14) fo25_7 s388 rfl) rfl fun a389 p390 s391 => ?_
    refine lS (oSto (cs := [.int .i64 0]) (l' := TThing.C ({ x0 with offer := (-1), item := 0 }) h0_0) p390.z s391 cst m385 Try.sizeOf3 rfl one1 rfl rfl fun w392 m393 g394 => ?_)
    have cx395 := cx387.st g394 f9
    refine rN (thenN ?_)
    refine wp_seq ?_
    refine reg ?_
    have s396 := p390.o s388 rfl
    refine s1 p390.z (okLdA ag25 s396 (m393.cl) rfl rfl whole) rfl fun a397 p398 s399 => ?_
    have s400 := p398.o (p390.o (p382.o s379 rfl) rfl) rfl
    refine s1 p398.z (okMv s400) rfl fun a401 p402 s403 => ?_
    have s404 := p402.o (p398.o (p390.o (p382.o (p378.o (pg375.o (p320.o (pg317.o (p270.o (p267.o (p264.o (p260.o (p255.o (p252.o s49 rfl) rfl) rfl) rfl) rfl) rfl) rfl) rfl) rfl) rfl) rfl) rfl) rfl) rfl
    have s405 := p402.o s399 rfl
    have m406 := (m24.g1 g386 (m27.ne e26).symm).g1 g394 (m27.ne e26).symm
    have q407 := qh0_0.mono (((((g6.tA (Nat.le_of_eq e7.symm)).trans (g16.tA (Nat.le_of_eq e17.symm))).trans (g25.tA (Nat.le_of_eq e26.symm))).trans (g386.t1 (.tail _ (.tail _ (.head _))))).trans (g394.t1 (.tail _ (.tail _ (.head _)))))
    refine lS (oStoW (cs := TThing.C ({ x0 with offer := (-1), item := 0 }) h0_0) p402.z s404 s405 m406 Try.sizeOf25 rfl (TThing.C_one _ q407.one) rfl fun w408 m409 g410 => ?_)
    have cx411 := cx395.st g410 f29
    refine s1 p402.z (okAs s403) rfl fun a412 p413 s414 => ?_
    refine rN (thenN ?_)
    have s415 := p413.o s404 rfl
    obtain rfl := Option.some.inj h
    have q416 := q407.mono (g410.t1 (.head _))
    exact wp_ret (blkR (thenR (ret2 p413.z Try.results25 (rvA ag25 s415 m409 rfl) (rvT s414) ⟨_, rfl, h0_0, rfl, (q416.mono ((Tr.refl _ _).sub (fun i h => (.tail _ (.tail _ (.tail _ h)))))), cx411.g⟩)))
  replace h := (ifN hb257).symm.trans h
  refine wp_seq ?_
  refine reg ?_
  have s417 := p255.o (p252.o s51 rfl) rfl
  refine s1 p255.z (okEq s417 cst) rfl fun a418 p419 s420 => ?_
  refine s1 p419.z (okAs s420) rfl fun a421 p422 s423 => ?_
  refine rN (thenN ?_)
  have pg424 : Pg _ [34, 35, 56, 57] _ _ := (((((Pg.refl pg52.z).st p252 rfl).st p255 rfl).st p419 rfl).st p422 rfl)
  refine cnd s423 (fun hb425 => ?_) (fun hb425 => ?_)
  · replace h := (ifP hb425).symm.trans h
    refine wp_seq ?_
    refine reg ?_
    have s426 := pg424.o s47 rfl
    refine s1 pg424.z (okFA (o' := 13) fo25_6 s426 rfl) rfl fun a427 p428 s429 => ?_
    have m430 := m27.g0 g25
    refine s1 p428.z (okLd (j := 13) na3 s429 (m430.cl) rfl rfl) rfl fun a431 p432 s433 => ?_
    have s434 := p432.o (p428.o (pg424.o (pg52.o s0_1 rfl) rfl) rfl) rfl
    refine s1 p432.z (okMv s434) rfl fun a435 p436 s437 => ?_
    have s438 := p436.o s433 rfl
    refine s1 p436.z (okEq s438 s437) rfl fun a439 p440 s441 => ?_
    refine s1 p440.z (okMv s441) rfl fun a442 p443 s444 => ?_
    refine cutP 4 (fun a' => Pg Try.f25.ntmps [63, 64, 65, 66] a442 a' ∧ a'.eval (.tmp 66) = .bool ((x0.offer == x1) && (x2.value == 0))) ?_ ?_
    · rcases bf (x0.offer == x1) with hb445 | hb445
      · have s446 := bv s444 hb445
        refine s1k p443.z rfl (yd p443.z rfl rfl s446) rfl fun a447 p448 s449 => ?_
        have s450 := p448.o s446 rfl
        refine s1k p448.z rfl (yd p448.z rfl rfl s450) rfl fun a451 p452 s453 => ?_
        have s454 := p452.o s450 rfl
        refine s1k p452.z rfl (yd p452.z rfl rfl s454) rfl fun a455 p456 s457 => ?_
        have s458 := p456.o s454 rfl
        refine s1 p456.z (okPickF s458 cst) rfl fun a459 p460 s461 => ?_
        exact rN ⟨rfl, rfl, (((((Pg.refl p443.z).st p448 rfl).st p452 rfl).st p456 rfl).st p460 rfl), (andF hb445 s461)⟩
      · have s462 := bv s444 hb445
        have s463 := p443.o (p440.o (p436.o (p432.o (p428.o (pg424.o s48 rfl) rfl) rfl) rfl) rfl) rfl
        refine s1g p443.z (okFA (o' := 1) fo29_1 s463 rfl) rfl (yd p443.z rfl rfl s462) fun a464 p465 s466 => ?_
        have s467 := p465.o s462 rfl
        refine s1g p465.z (okLd (j := 1) na2 s466 (m37.cl) rfl rfl) rfl (yd p465.z rfl rfl s467) fun a468 p469 s470 => ?_
        have s471 := p469.o s467 rfl
        refine s1g p469.z (okEq s470 cst) rfl (yd p469.z rfl rfl s471) fun a472 p473 s474 => ?_
        have s475 := p473.o s471 rfl
        refine s1 p473.z (okPickT s475 s474) rfl fun a476 p477 s478 => ?_
        exact rN ⟨rfl, rfl, (((((Pg.refl p443.z).st p465 rfl).st p469 rfl).st p473 rfl).st p477 rfl), (andT hb445 s478)⟩
    rintro a479 ⟨pg480, s481⟩
    refine s1 pg480.z (okAs s481) rfl fun a482 p483 s484 => ?_
    refine rN (thenN ?_)
    refine wp_seq ?_
    refine reg ?_
    have s485 := p483.o (pg480.o (p443.o (p440.o (p436.o (p432.o (p428.o s426 rfl) rfl) rfl) rfl) rfl) rfl) rfl
    refine s1 p483.z (okFA (o' := 13) fo25_6 s485 rfl) rfl fun a486 p487 s488 => ?_
    refine lS (oSto (cs := [.int .i64 (-1)]) (l' := TThing.C ({ x0 with offer := (-1) }) h0_0) p487.z s488 cst m430 Try.sizeOf3 rfl one1 rfl rfl fun w489 m490 g491 => ?_)
    have cx492 := cx28.st g491 f9
    have s493 := p487.o s485 rfl
    refine s1 p487.z (okFA (o' := 14) fo25_7 s493 rfl) rfl fun a494 p495 s496 => ?_
    refine lS (oSto (cs := [.int .i64 0]) (l' := TThing.C ({ x0 with offer := (-1), item := 0 }) h0_0) p495.z s496 cst m490 Try.sizeOf3 rfl one1 rfl rfl fun w497 m498 g499 => ?_)
    have cx500 := cx492.st g499 f9
    refine rN (thenN ?_)
    refine wp_seq ?_
    refine reg ?_
    have s501 := p495.o s493 rfl
    refine s1 p495.z (okLdA ag25 s501 (m498.cl) rfl rfl whole) rfl fun a502 p503 s504 => ?_
    have s505 := p503.o (p495.o (p487.o s484 rfl) rfl) rfl
    refine s1 p503.z (okMv s505) rfl fun a506 p507 s508 => ?_
    have s509 := p507.o (p503.o (p495.o (p487.o (p483.o (pg480.o (p443.o (p440.o (p436.o (p432.o (p428.o (pg424.o s49 rfl) rfl) rfl) rfl) rfl) rfl) rfl) rfl) rfl) rfl) rfl) rfl
    have s510 := p507.o s504 rfl
    have m511 := (m24.g1 g491 (m27.ne e26).symm).g1 g499 (m27.ne e26).symm
    have q512 := qh0_0.mono (((((g6.tA (Nat.le_of_eq e7.symm)).trans (g16.tA (Nat.le_of_eq e17.symm))).trans (g25.tA (Nat.le_of_eq e26.symm))).trans (g491.t1 (.tail _ (.tail _ (.head _))))).trans (g499.t1 (.tail _ (.tail _ (.head _)))))
    refine lS (oStoW (cs := TThing.C ({ x0 with offer := (-1), item := 0 }) h0_0) p507.z s509 s510 m511 Try.sizeOf25 rfl (TThing.C_one _ q512.one) rfl fun w513 m514 g515 => ?_)
    have cx516 := cx500.st g515 f29
    refine s1 p507.z (okAs s508) rfl fun a517 p518 s519 => ?_
    refine rN (thenN ?_)
    have s520 := p518.o s509 rfl
    obtain rfl := Option.some.inj h
    have q521 := q512.mono (g515.t1 (.head _))
    exact wp_ret (blkR (thenR (ret2 p518.z Try.results25 (rvA ag25 s520 m514 rfl) (rvT s519) ⟨_, rfl, h0_0, rfl, (q521.mono ((Tr.refl _ _).sub (fun i h => (.tail _ (.tail _ (.tail _ h)))))), cx516.g⟩)))
  replace h := (ifN hb425).symm.trans h
  refine wp_skip (blkN (thenN ?_))
  refine wp_seq ?_
  refine reg ?_
  have s522 := pg424.o s47 rfl
  have m523 := m27.g0 g25
  refine s1 pg424.z (okLdA ag25 s522 (m523.cl) rfl rfl whole) rfl fun a524 p525 s526 => ?_
  have s527 := p525.o (pg424.o s49 rfl) rfl
  have q528 := qh0_0.mono (((g6.tA (Nat.le_of_eq e7.symm)).trans (g16.tA (Nat.le_of_eq e17.symm))).trans (g25.tA (Nat.le_of_eq e26.symm)))
  refine lS (oStoW (cs := TThing.C x0 h0_0) p525.z s527 s526 m24 Try.sizeOf25 rfl (TThing.C_one _ q528.one) rfl fun w529 m530 g531 => ?_)
  have cx532 := cx28.st g531 f29
  refine s1 p525.z (okAs cst) rfl fun a533 p534 s535 => ?_
  refine rN (thenN ?_)
  have s536 := p534.o s527 rfl
  obtain rfl := Option.some.inj h
  have q537 := q528.mono (g531.t1 (.head _))
  exact wp_ret (ret2 p534.z Try.results25 (rvA ag25 s536 m530 rfl) (rvT s535) ⟨_, rfl, h0_0, rfl, (q537.mono ((Tr.refl _ _).sub (fun i h => (.tail _ (.tail _ (.tail _ h)))))), cx532.g⟩)

set_option maxHeartbeats 4000000 in
theorem c16 (k : Nat) (L : List Nat) (w : World) (hL : ∀ b ∈ L, b < w.heap.size) (x0 : TThing) (h0_0 : Value) (qh0_0 : OwnS KTWaiter 45 (ownB h0_0 ++ L) w h0_0 x0.waiters) (nbh0_0 : ∀ x ∈ ownB h0_0, x ∉ L) (x1 : Int) (x2 : TNote) (r : TThing × Bool) (h : model_done k x0 x1 x2 = some r) : Calls Try.prog 16 #[.agg (TThing.C x0 h0_0).toArray, .int .i64 x1, .agg (TNote.C x2).toArray] w (fun e w' => ∃ v, e = .returned v ∧ ∃ u_0, v = .tuple #[.agg (TThing.C r.1 u_0).toArray, .bool r.2] ∧ RdS KTWaiter L w' u_0 r.1.waiters ∧ G (ownB h0_0) w w') := by
  refine enterF Try.func16 rfl rfl fun a0 z0 A => ?_
  have s0_0 := A 0 (.agg (TThing.C x0 h0_0).toArray) rfl
  have s0_1 := A 1 (.int .i64 x1) rfl
  have s0_2 := A 2 (.agg (TNote.C x2).toArray) rfl
  clear A
  have c0 : Cx (ownB h0_0) w (ownB h0_0 ++ L) w := ⟨G.refl _ _, (fun i h => ((List.mem_append.1 h).elim (fun h => qh0_0.lt i h) (fun h => (hL i h))))⟩
  unfold model_done at h
  refine wp_seq ?_
  refine reg ?_
  refine lS (oBox (l := TThing.C x0 h0_0) z0 s0_0 rfl rfl fun a1 w2 b3 p4 sp4 m5 g6 e7 => ?_)
  have f9 := c0.nw e7
  have cx8 := c0.al g6 m5
  have s10 := p4.o s0_2 rfl
  have q18 := qh0_0.t0 (g6.tA (Nat.le_of_eq e7.symm)) g6
  refine lS (oBox (l := TNote.C x2) p4.z s10 rfl rfl fun a11 w12 b13 p14 sp14 m15 g16 e17 => ?_)
  have f20 := cx8.nw e17
  have cx19 := cx8.al g16 m15
  have m28 := m5.g0 g16
  have q29 := q18.t0 (g16.tA (Nat.le_of_eq e17.symm)) g16
  refine lS (oAlloc zv25 p14.z rfl fun a21 w22 b23 p24 sp24 m25 g26 e27 => ?_)
  have f31 := cx19.nw e27
  have cx30 := cx19.al g26 m25
  refine s1 p24.z (okAs cst) rfl fun a32 p33 s34 => ?_
  refine rN (thenN ?_)
  refine wp_seq ?_
  refine wp_seq ?_
  refine reg ?_
  have s35 := p33.o (p24.o (p14.o sp4 rfl) rfl) rfl
  refine s1 p33.z (okFA (o' := 0) fo25_0 s35 rfl) rfl fun a36 p37 s38 => ?_
  have m39 := m28.g0 g26
  refine s1 p37.z (okLd (j := 0) na3 s38 (m39.cl) rfl rfl) rfl fun a40 p41 s42 => ?_
  refine rN (thenN ?_)
  refine wp_block ?_
  refine wp_seq ?_
  refine reg ?_
  refine s1 p41.z (okEq s42 cst) rfl fun a43 p44 s45 => ?_
  refine s1 p44.z (okAs s45) rfl fun a46 p47 s48 => ?_
  refine rN (thenN ?_)
  have s49 := p47.o (p44.o (p41.o (p37.o s35 rfl) rfl) rfl) rfl
  have s50 := p47.o (p44.o (p41.o (p37.o (p33.o (p24.o sp14 rfl) rfl) rfl) rfl) rfl) rfl
  have s51 := p47.o (p44.o (p41.o (p37.o (p33.o sp24 rfl) rfl) rfl) rfl) rfl
  have s52 := p47.o (p44.o (p41.o (p37.o s34 rfl) rfl) rfl) rfl
  have s53 := p47.o (p44.o s42 rfl) rfl
  have pg54 : Pg _ [3, 5, 6, 7, 8, 9, 10, 11] _ _ := (((((((((Pg.refl z0).st p4 rfl).st p14 rfl).st p24 rfl).st p33 rfl).st p37 rfl).st p41 rfl).st p44 rfl).st p47 rfl)
  refine cnd s48 (fun hb55 => ?_) (fun hb55 => ?_)
  · replace h := (ifP hb55).symm.trans h
    refine wp_seq ?_
    refine reg ?_
    refine s1 pg54.z (okLdA ag25 s49 (m39.cl) rfl rfl whole) rfl fun a56 p57 s58 => ?_
    have s59 := p57.o (pg54.o s0_1 rfl) rfl
    refine s1 p57.z (okMv s59) rfl fun a60 p61 s62 => ?_
    have s63 := p61.o (p57.o s50 rfl) rfl
    have m64 := m15.g0 g26
    refine s1 p61.z (okLdA ag29 s63 (m64.cl) rfl rfl whole) rfl fun a65 p66 s67 => ?_
    have s68 := p66.o (p61.o s58 rfl) rfl
    have s69 := p66.o s62 rfl
    have q70 := q29.t0 (g26.tA (Nat.le_of_eq e27.symm)) g26
    obtain ⟨t71, ht72, h⟩ := Option.bind_eq_some_iff.1 h
    refine lS (oCall p66.z Try.call21 (ag3 s68 s69 s67) (c21 k (b23 :: b13 :: b3 :: L) w22 (fun b h => cx30.lt b ((fun i h => (List.mem_cons.1 h).elim (fun e => e ▸ (.head _)) (fun h => (List.mem_cons.1 h).elim (fun e => e ▸ (.tail _ (.head _))) (fun h => (List.mem_cons.1 h).elim (fun e => e ▸ (.tail _ (.tail _ (.head _)))) (fun h => (.tail _ (.tail _ (.tail _ (List.mem_append_right _ h)))))))) b h)) _ _ (q70.sub (fun i h => (List.mem_append.1 h).elim (fun h => (.tail _ (.tail _ (.tail _ (List.mem_append_left _ h))))) (fun h => (List.mem_cons.1 h).elim (fun e => e ▸ (.head _)) (fun h => (List.mem_cons.1 h).elim (fun e => e ▸ (.tail _ (.head _))) (fun h => (List.mem_cons.1 h).elim (fun e => e ▸ (.tail _ (.tail _ (.head _)))) (fun h => (.tail _ (.tail _ (.tail _ (List.mem_append_right _ h)))))))))) (fun b hb => (not_cons (fun e => (q29.nb e27) (e ▸ hb)) (not_cons (fun e => (q18.nb e17) (e ▸ hb)) (not_cons (fun e => (qh0_0.nb e7) (e ▸ hb)) (nbh0_0 _ hb))))) _ _ _ ht72) rfl fun v76 a73 w74 hp77 p75 sp75 => ?_)
    obtain ⟨h78, rfl, q79, g80⟩ := hp77
    have cx81 := (cx30.cs g80 (fun _ h => .inl h)).sub (fun i h => (List.mem_cons.1 h).elim (fun e => e ▸ (.head _)) (fun h => (List.mem_cons.1 h).elim (fun e => e ▸ (.tail _ (.head _))) (fun h => (List.mem_cons.1 h).elim (fun e => e ▸ (.tail _ (.tail _ (.head _)))) (fun h => (.tail _ (.tail _ (.tail _ (List.mem_append_right _ h))))))))
    refine s1 p75.z (okExt (vs := [_, _]) sp75 rfl) rfl fun a82 p83 s84 => ?_
    have s85 := p83.o sp75 rfl
    refine s1 p83.z (okExt (vs := [_, _]) s85 rfl) rfl fun a86 p87 s88 => ?_
    have s89 := p87.o (p83.o (p75.o (p66.o (p61.o (p57.o s51 rfl) rfl) rfl) rfl) rfl) rfl
    have s90 := p87.o s84 rfl
    have m91 := m25.g g80 (q29.nb e27)
    refine lS (oStoW (cs := TThing.C t71.1 h78) p87.z s89 s90 m91 Try.sizeOf25 rfl (TThing.C_one _ q79.one) rfl fun w92 m93 g94 => ?_)
    have cx95 := cx81.st g94 f31
    refine s1 p87.z (okAs s88) rfl fun a96 p97 s98 => ?_
    refine rN (thenN ?_)
    have s99 := p97.o s89 rfl
    obtain rfl := Option.some.inj h
    have q100 := q79.mono (g94.t1 (.head _))
    exact wp_ret (blkR (thenR (ret2 p97.z Try.results16 (rvA ag25 s99 m93 rfl) (rvT s98) ⟨_, rfl, h78, rfl, (q100.mono ((Tr.refl _ _).sub (fun i h => (.tail _ (.tail _ (.tail _ h)))))), cx95.g⟩)))
  replace h := (ifN hb55).symm.trans h
  refine wp_seq ?_
  refine reg ?_
  refine s1 pg54.z (okEq s53 cst) rfl fun a101 p102 s103 => ?_
  refine s1 p102.z (okAs s103) rfl fun a104 p105 s106 => ?_
  refine rN (thenN ?_)
  refine cnd s106 (fun hb107 => ?_) (fun hb107 => ?_)
  · replace h := (ifP hb107).symm.trans h
    refine wp_seq ?_
    refine reg ?_
    have s108 := p105.o (p102.o s49 rfl) rfl
    refine s1 p105.z (okLdA ag25 s108 (m39.cl) rfl rfl whole) rfl fun a109 p110 s111 => ?_
    have s112 := p110.o (p105.o (p102.o s50 rfl) rfl) rfl
    have m113 := m15.g0 g26
    refine s1 p110.z (okLdA ag29 s112 (m113.cl) rfl rfl whole) rfl fun a114 p115 s116 => ?_
    have s117 := p115.o s111 rfl
    have q118 := q29.t0 (g26.tA (Nat.le_of_eq e27.symm)) g26
    have q119 : RdS KTWaiter (b23 :: b13 :: b3 :: L) w22 h0_0 x0.waiters := q118.rd (fun i h => (List.mem_cons.1 h).elim (fun e => e ▸ (.head _)) (fun h => (List.mem_cons.1 h).elim (fun e => e ▸ (.tail _ (.head _))) (fun h => (List.mem_cons.1 h).elim (fun e => e ▸ (.tail _ (.tail _ (.head _)))) (fun h => (.tail _ (.tail _ (.tail _ (List.mem_append_right _ h)))))))) (fun b hb => (not_cons (fun e => (q29.nb e27) (e ▸ hb)) (not_cons (fun e => (q18.nb e17) (e ▸ hb)) (not_cons (fun e => (qh0_0.nb e7) (e ▸ hb)) (nbh0_0 _ hb)))))
    have cx120 := cx30.sub (fun i h => (List.mem_cons.1 h).elim (fun e => e ▸ (.head _)) (fun h => (List.mem_cons.1 h).elim (fun e => e ▸ (.tail _ (.head _))) (fun h => (List.mem_cons.1 h).elim (fun e => e ▸ (.tail _ (.tail _ (.head _)))) (fun h => (.tail _ (.tail _ (.tail _ (List.mem_append_right _ h))))))))
    obtain ⟨t121, ht122, h⟩ := Option.bind_eq_some_iff.1 h
    refine lS (oCall p115.z Try.call22 (ag2 s117 s116) (c22 (b23 :: b13 :: b3 :: L) w22 cx120.lt _ _ q119 _ _ ht122) rfl fun v126 a123 w124 hp127 p125 sp125 => ?_)
    obtain ⟨h128, rfl, q129, g130⟩ := hp127
    have cx131 := cx120.ca g130
    refine s1 p125.z (okExt (vs := [_, _]) sp125 rfl) rfl fun a132 p133 s134 => ?_
    have s135 := p133.o sp125 rfl
    refine s1 p133.z (okExt (vs := [_, _]) s135 rfl) rfl fun a136 p137 s138 => ?_
    have s139 := p137.o (p133.o (p125.o (p115.o (p110.o (p105.o (p102.o s51 rfl) rfl) rfl) rfl) rfl) rfl) rfl
    have s140 := p137.o s134 rfl
    have m141 := (m25.g0 (G.refl [] w22)).g0 g130
    refine lS (oStoW (cs := TThing.C t121.1 h128) p137.z s139 s140 m141 Try.sizeOf25 rfl (TThing.C_one _ q129.one) rfl fun w142 m143 g144 => ?_)
    have cx145 := cx131.st g144 f31
    refine s1 p137.z (okAs s138) rfl fun a146 p147 s148 => ?_
    refine rN (thenN ?_)
    have s149 := p147.o s139 rfl
    obtain rfl := Option.some.inj h
    have q150 := q129.mono (g144.t1 (.head _))
    exact wp_ret (blkR (thenR (ret2 p147.z Try.results16 (rvA ag25 s149 m143 rfl) (rvT s148) ⟨_, rfl, h128, rfl, (q150.mono ((Tr.refl _ _).sub (fun i h => (.tail _ (.tail _ (.tail _ h)))))), cx145.g⟩)))
  replace h := (ifN hb107).symm.trans h
  refine wp_seq ?_
  refine reg ?_
  have s151 := p105.o (p102.o s53 rfl) rfl
  refine s1 p105.z (okEq s151 cst) rfl fun a152 p153 s154 => ?_
  refine s1 p153.z (okAs s154) rfl fun a155 p156 s157 => ?_
  refine rN (thenN ?_)
  have s158 := p156.o (p153.o s151 rfl) rfl
  have pg159 : Pg _ [18, 19, 25, 26] _ _ := (((((Pg.refl pg54.z).st p102 rfl).st p105 rfl).st p153 rfl).st p156 rfl)
  refine cnd s157 (fun hb160 => ?_) (fun hb160 => ?_)
  · replace h := (ifP hb160).symm.trans h
    refine wp_seq ?_
    refine reg ?_
    have s161 := pg159.o s49 rfl
    refine s1 pg159.z (okLdA ag25 s161 (m39.cl) rfl rfl whole) rfl fun a162 p163 s164 => ?_
    have s165 := p163.o (pg159.o s50 rfl) rfl
    have m166 := m15.g0 g26
    refine s1 p163.z (okLdA ag29 s165 (m166.cl) rfl rfl whole) rfl fun a167 p168 s169 => ?_
    have s170 := p168.o s164 rfl
    have q171 := q29.t0 (g26.tA (Nat.le_of_eq e27.symm)) g26
    have q172 : RdS KTWaiter (b23 :: b13 :: b3 :: L) w22 h0_0 x0.waiters := q171.rd (fun i h => (List.mem_cons.1 h).elim (fun e => e ▸ (.head _)) (fun h => (List.mem_cons.1 h).elim (fun e => e ▸ (.tail _ (.head _))) (fun h => (List.mem_cons.1 h).elim (fun e => e ▸ (.tail _ (.tail _ (.head _)))) (fun h => (.tail _ (.tail _ (.tail _ (List.mem_append_right _ h)))))))) (fun b hb => (not_cons (fun e => (q29.nb e27) (e ▸ hb)) (not_cons (fun e => (q18.nb e17) (e ▸ hb)) (not_cons (fun e => (qh0_0.nb e7) (e ▸ hb)) (nbh0_0 _ hb)))))
    have cx173 := cx30.sub (fun i h => (List.mem_cons.1 h).elim (fun e => e ▸ (.head _)) (fun h => (List.mem_cons.1 h).elim (fun e => e ▸ (.tail _ (.head _))) (fun h => (List.mem_cons.1 h).elim (fun e => e ▸ (.tail _ (.tail _ (.head _)))) (fun h => (.tail _ (.tail _ (.tail _ (List.mem_append_right _ h))))))))
    obtain ⟨t174, ht175, h⟩ := Option.bind_eq_some_iff.1 h
    refine lS (oCall p168.z Try.call23 (ag2 s170 s169) (c23 (b23 :: b13 :: b3 :: L) w22 cx173.lt _ _ q172 _ _ ht175) rfl fun v179 a176 w177 hp180 p178 sp178 => ?_)
    obtain ⟨h181, rfl, q182, g183⟩ := hp180
    have cx184 := cx173.ca g183
    refine s1 p178.z (okExt (vs := [_, _]) sp178 rfl) rfl fun a185 p186 s187 => ?_
    have s188 := p186.o sp178 rfl
    refine s1 p186.z (okExt (vs := [_, _]) s188 rfl) rfl fun a189 p190 s191 => ?_
    have s192 := p190.o (p186.o (p178.o (p168.o (p163.o (pg159.o s51 rfl) rfl) rfl) rfl) rfl) rfl
    have s193 := p190.o s187 rfl
    have m194 := (m25.g0 (G.refl [] w22)).g0 g183
    refine lS (oStoW (cs := TThing.C t174.1 h181) p190.z s192 s193 m194 Try.sizeOf25 rfl (TThing.C_one _ q182.one) rfl fun w195 m196 g197 => ?_)
    have cx198 := cx184.st g197 f31
    refine s1 p190.z (okAs s191) rfl fun a199 p200 s201 => ?_
    refine rN (thenN ?_)
    have s202 := p200.o s192 rfl
    obtain rfl := Option.some.inj h
    have q203 := q182.mono (g197.t1 (.head _))
    exact wp_ret (blkR (thenR (ret2 p200.z Try.results16 (rvA ag25 s202 m196 rfl) (rvT s201) ⟨_, rfl, h181, rfl, (q203.mono ((Tr.refl _ _).sub (fun i h => (.tail _ (.tail _ (.tail _ h)))))), cx198.g⟩)))
  replace h := (ifN hb160).symm.trans h
  refine wp_seq ?_
  refine reg ?_
  refine s1 pg159.z (okEq s158 cst) rfl fun a204 p205 s206 => ?_
  refine s1 p205.z (okAs s206) rfl fun a207 p208 s209 => ?_
  refine rN (thenN ?_)
  refine cnd s209 (fun hb210 => ?_) (fun hb210 => ?_)
  · replace h := (ifP hb210).symm.trans h
    refine wp_seq ?_
    refine reg ?_
    have s211 := p208.o (p205.o (pg159.o s49 rfl) rfl) rfl
    refine s1 p208.z (okLdA ag25 s211 (m39.cl) rfl rfl whole) rfl fun a212 p213 s214 => ?_
    have s215 := p213.o (p208.o (p205.o (pg159.o (pg54.o s0_1 rfl) rfl) rfl) rfl) rfl
    refine s1 p213.z (okMv s215) rfl fun a216 p217 s218 => ?_
    have s219 := p217.o (p213.o (p208.o (p205.o (pg159.o s50 rfl) rfl) rfl) rfl) rfl
    have m220 := m15.g0 g26
    refine s1 p217.z (okLdA ag29 s219 (m220.cl) rfl rfl whole) rfl fun a221 p222 s223 => ?_
    have s224 := p222.o (p217.o s214 rfl) rfl
    have s225 := p222.o s218 rfl
    have q226 := q29.t0 (g26.tA (Nat.le_of_eq e27.symm)) g26
    have q227 : RdS KTWaiter (b23 :: b13 :: b3 :: L) w22 h0_0 x0.waiters := q226.rd (fun i h => (List.mem_cons.1 h).elim (fun e => e ▸ (.head _)) (fun h => (List.mem_cons.1 h).elim (fun e => e ▸ (.tail _ (.head _))) (fun h => (List.mem_cons.1 h).elim (fun e => e ▸ (.tail _ (.tail _ (.head _)))) (fun h => (.tail _ (.tail _ (.tail _ (List.mem_append_right _ h)))))))) (fun b hb => (not_cons (fun e => (q29.nb e27) (e ▸ hb)) (not_cons (fun e => (q18.nb e17) (e ▸ hb)) (not_cons (fun e => (qh0_0.nb e7) (e ▸ hb)) (nbh0_0 _ hb)))))
    have cx228 := cx30.sub (fun i h => (List.mem_cons.1 h).elim (fun e => e ▸ (.head _)) (fun h => (List.mem_cons.1 h).elim (fun e => e ▸ (.tail _ (.head _))) (fun h => (List.mem_cons.1 h).elim (fun e => e ▸ (.tail _ (.tail _ (.head _)))) (fun h => (.tail _ (.tail _ (.tail _ (List.mem_append_right _ h))))))))
    obtain ⟨t229, ht230, h⟩ := Option.bind_eq_some_iff.1 h
    refine lS (oCall p222.z Try.call24 (ag3 s224 s225 s223) (c24 k (b23 :: b13 :: b3 :: L) w22 cx228.lt _ _ q227 _ _ _ ht230) rfl fun v234 a231 w232 hp235 p233 sp233 => ?_)
    obtain ⟨h236, rfl, q237, g238⟩ := hp235
    have cx239 := cx228.ca g238
    refine s1 p233.z (okExt (vs := [_, _]) sp233 rfl) rfl fun a240 p241 s242 => ?_
    have s243 := p241.o sp233 rfl
    refine s1 p241.z (okExt (vs := [_, _]) s243 rfl) rfl fun a244 p245 s246 => ?_
    have s247 := p245.o (p241.o (p233.o (p222.o (p217.o (p213.o (p208.o (p205.o (pg159.o s51 rfl) rfl) rfl) rfl) rfl) rfl) rfl) rfl) rfl
    have s248 := p245.o s242 rfl
    have m249 := (m25.g0 (G.refl [] w22)).g0 g238
    refine lS (oStoW (cs := TThing.C t229.1 h236) p245.z s247 s248 m249 Try.sizeOf25 rfl (TThing.C_one _ q237.one) rfl fun w250 m251 g252 => ?_)
    have cx253 := cx239.st g252 f31
    refine s1 p245.z (okAs s246) rfl fun a254 p255 s256 => ?_
    refine rN (thenN ?_)
    have s257 := p255.o s247 rfl
    obtain rfl := Option.some.inj h
    have q258 := q237.mono (g252.t1 (.head _))
    exact wp_ret (blkR (thenR (ret2 p255.z Try.results16 (rvA ag25 s257 m251 rfl) (rvT s256) ⟨_, rfl, h236, rfl, (q258.mono ((Tr.refl _ _).sub (fun i h => (.tail _ (.tail _ (.tail _ h)))))), cx253.g⟩)))
  replace h := (ifN hb210).symm.trans h
  refine wp_seq ?_
  refine reg ?_
  have s259 := p208.o (p205.o s158 rfl) rfl
  refine s1 p208.z (okEq s259 cst) rfl fun a260 p261 s262 => ?_
  refine s1 p261.z (okAs s262) rfl fun a263 p264 s265 => ?_
  refine rN (thenN ?_)
  have pg266 : Pg _ [32, 33, 40, 41] _ _ := (((((Pg.refl pg159.z).st p205 rfl).st p208 rfl).st p261 rfl).st p264 rfl)
  refine cnd s265 (fun hb267 => ?_) (fun hb267 => ?_)
  · replace h := (ifP hb267).symm.trans h
    refine wp_seq ?_
    refine reg ?_
    have s268 := pg266.o (pg159.o s49 rfl) rfl
    refine s1 pg266.z (okLdA ag25 s268 (m39.cl) rfl rfl whole) rfl fun a269 p270 s271 => ?_
    have s272 := p270.o (pg266.o (pg159.o (pg54.o s0_1 rfl) rfl) rfl) rfl
    refine s1 p270.z (okMv s272) rfl fun a273 p274 s275 => ?_
    have s276 := p274.o (p270.o (pg266.o (pg159.o s50 rfl) rfl) rfl) rfl
    have m277 := m15.g0 g26
    refine s1 p274.z (okLdA ag29 s276 (m277.cl) rfl rfl whole) rfl fun a278 p279 s280 => ?_
    have s281 := p279.o (p274.o s271 rfl) rfl
    have s282 := p279.o s275 rfl
    have q283 := q29.t0 (g26.tA (Nat.le_of_eq e27.symm)) g26
    have q284 : RdS KTWaiter (b23 :: b13 :: b3 :: L) w22 h0_0 x0.waiters := q283.rd (fun i h => (List.mem_cons.1 h).elim (fun e => e ▸ (.head _)) (fun h => (List.mem_cons.1 h).elim (fun e => e ▸ (.tail _ (.head _))) (fun h => (List.mem_cons.1 h).elim (fun e => e ▸ (.tail _ (.tail _ (.head _)))) (fun h => (.tail _ (.tail _ (.tail _ (List.mem_append_right _ h)))))))) (fun b hb => (not_cons (fun e => (q29.nb e27) (e ▸ hb)) (not_cons (fun e => (q18.nb e17) (e ▸ hb)) (not_cons (fun e => (qh0_0.nb e7) (e ▸ hb)) (nbh0_0 _ hb)))))
    have cx285 := cx30.sub (fun i h => (List.mem_cons.1 h).elim (fun e => e ▸ (.head _)) (fun h => (List.mem_cons.1 h).elim (fun e => e ▸ (.tail _ (.head _))) (fun h => (List.mem_cons.1 h).elim (fun e => e ▸ (.tail _ (.tail _ (.head _)))) (fun h => (.tail _ (.tail _ (.tail _ (List.mem_append_right _ h))))))))
    obtain ⟨t286, ht287, h⟩ := Option.bind_eq_some_iff.1 h
    refine lS (oCall p279.z Try.call25 (ag3 s281 s282 s280) (c25 (b23 :: b13 :: b3 :: L) w22 cx285.lt _ _ q284 _ _ _ ht287) rfl fun v291 a288 w289 hp292 p290 sp290 => ?_)
    obtain ⟨h293, rfl, q294, g295⟩ := hp292
    have cx296 := cx285.ca g295
    refine s1 p290.z (okExt (vs := [_, _]) sp290 rfl) rfl fun a297 p298 s299 => ?_
    have s300 := p298.o sp290 rfl
    refine s1 p298.z (okExt (vs := [_, _]) s300 rfl) rfl fun a301 p302 s303 => ?_
    have s304 := p302.o (p298.o (p290.o (p279.o (p274.o (p270.o (pg266.o (pg159.o s51 rfl) rfl) rfl) rfl) rfl) rfl) rfl) rfl
    have s305 := p302.o s299 rfl
    have m306 := (m25.g0 (G.refl [] w22)).g0 g295
    refine lS (oStoW (cs := TThing.C t286.1 h293) p302.z s304 s305 m306 Try.sizeOf25 rfl (TThing.C_one _ q294.one) rfl fun w307 m308 g309 => ?_)
    have cx310 := cx296.st g309 f31
    refine s1 p302.z (okAs s303) rfl fun a311 p312 s313 => ?_
    refine rN (thenN ?_)
    have s314 := p312.o s304 rfl
    obtain rfl := Option.some.inj h
    have q315 := q294.mono (g309.t1 (.head _))
    exact wp_ret (blkR (thenR (ret2 p312.z Try.results16 (rvA ag25 s314 m308 rfl) (rvT s313) ⟨_, rfl, h293, rfl, (q315.mono ((Tr.refl _ _).sub (fun i h => (.tail _ (.tail _ (.tail _ h)))))), cx310.g⟩)))
  replace h := (ifN hb267).symm.trans h
  refine wp_skip (blkN (thenN ?_))
  refine wp_seq ?_
  refine reg ?_
  have s316 := pg266.o (pg159.o s49 rfl) rfl
  refine s1 pg266.z (okLdA ag25 s316 (m39.cl) rfl rfl whole) rfl fun a317 p318 s319 => ?_
  have s320 := p318.o (pg266.o (pg159.o s51 rfl) rfl) rfl
  have q321 := q29.t0 (g26.tA (Nat.le_of_eq e27.symm)) g26
  refine lS (oStoW (cs := TThing.C x0 h0_0) p318.z s320 s319 m25 Try.sizeOf25 rfl (TThing.C_one _ q321.one) rfl fun w322 m323 g324 => ?_)
  have cx325 := cx30.st g324 f31
  refine s1 p318.z (okAs cst) rfl fun a326 p327 s328 => ?_
  refine rN (thenN ?_)
  have s329 := p327.o s320 rfl
  obtain rfl := Option.some.inj h
  have q330 := q321.t1 (g324.t1 (.head _)) g324 (q29.nb e27)
  exact wp_ret (ret2 p327.z Try.results16 (rvA ag25 s329 m323 rfl) (rvT s328) ⟨_, rfl, h0_0, rfl, (q330.rd (fun i h => (.tail _ (.tail _ (.tail _ (List.mem_append_right _ h))))) nbh0_0), cx325.g⟩)

set_option maxHeartbeats 4000000 in
theorem c7 (k : Nat) (L : List Nat) (w : World) (hL : ∀ b ∈ L, b < w.heap.size) (x0 : TThing) (h0_0 : Value) (qh0_0 : RdS KTWaiter L w h0_0 x0.waiters) (x1 : Int) (x2 : TNote) (r : TThing × Bool) (h : model_Do k x0 x1 x2 = some r) : Calls Try.prog 7 #[.agg (TThing.C x0 h0_0).toArray, .int .i64 x1, .agg (TNote.C x2).toArray] w (fun e w' => ∃ v, e = .returned v ∧ ∃ u_0, v = .tuple #[.agg (TThing.C r.1 u_0).toArray, .bool r.2] ∧ RdS KTWaiter L w' u_0 r.1.waiters ∧ G [] w w') := by
  refine enterF Try.func7 rfl rfl fun a0 z0 A => ?_
  have s0_0 := A 0 (.agg (TThing.C x0 h0_0).toArray) rfl
  have s0_1 := A 1 (.int .i64 x1) rfl
  have s0_2 := A 2 (.agg (TNote.C x2).toArray) rfl
  clear A
  have c0 : Cx [] w L w := ⟨G.refl _ _, hL⟩
  unfold model_Do at h
  refine wp_seq ?_
  refine reg ?_
  refine lS (oBox (l := TThing.C x0 h0_0) z0 s0_0 rfl rfl fun a1 w2 b3 p4 sp4 m5 g6 e7 => ?_)
  have f9 := c0.nw e7
  have cx8 := c0.al g6 m5
  have s10 := p4.o s0_2 rfl
  refine lS (oBox (l := TNote.C x2) p4.z s10 rfl rfl fun a11 w12 b13 p14 sp14 m15 g16 e17 => ?_)
  have f19 := cx8.nw e17
  have cx18 := cx8.al g16 m15
  have m27 := m5.g0 g16
  refine lS (oAlloc zv25 p14.z rfl fun a20 w21 b22 p23 sp23 m24 g25 e26 => ?_)
  have f29 := cx18.nw e26
  have cx28 := cx18.al g25 m24
  refine s1 p23.z (okAs cst) rfl fun a30 p31 s32 => ?_
  refine rN (thenN ?_)
  refine wp_seq ?_
  refine reg ?_
  have s33 := p31.o (p23.o (p14.o sp4 rfl) rfl) rfl
  have m34 := m27.g0 g25
  refine s1 p31.z (okLdA ag25 s33 (m34.cl) rfl rfl whole) rfl fun a35 p36 s37 => ?_
  have m45 := m15.g0 g25
  refine lS (oAlloc zv25 p36.z rfl fun a38 w39 b40 p41 sp41 m42 g43 e44 => ?_)
  have f47 := cx28.nw e44
  have cx46 := cx28.al g43 m42
  have s48 := p41.o s37 rfl
  have q49 := qh0_0.mono ((((g6.tA (Nat.le_of_eq e7.symm)).trans (g16.tA (Nat.le_of_eq e17.symm))).trans (g25.tA (Nat.le_of_eq e26.symm))).trans (g43.tA (Nat.le_of_eq e44.symm)))
  refine lS (oStoW (cs := TThing.C x0 h0_0) p41.z sp41 s48 m42 Try.sizeOf25 rfl (TThing.C_one _ q49.one) rfl fun w50 m51 g52 => ?_)
  have cx53 := cx46.st g52 f47
  refine rN (thenN ?_)
  refine wp_seq ?_
  obtain ⟨t63, ht64, h⟩ := Option.bind_eq_some_iff.1 h
  obtain ⟨t92, ht93, h⟩ := Option.bind_eq_some_iff.1 h
  have s136 := p41.o (p36.o (p31.o (p23.o (p14.o (p4.o s0_1 rfl) rfl) rfl) rfl) rfl) rfl
  have s137 := p41.o (p36.o s33 rfl) rfl
  have s138 := p41.o (p36.o (p31.o (p23.o sp14 rfl) rfl) rfl) rfl
  have s139 := p41.o (p36.o (p31.o sp23 rfl) rfl) rfl
  have s140 := p41.o (p36.o s32 rfl) rfl
  have m141 := (m34.g0 g43).g1 g52 (m34.ne e44)
  have m142 := (m45.g0 g43).g1 g52 (m45.ne e44)
  have m143 := (m24.g0 g43).g1 g52 (m24.ne e44)
  refine regJ (fun a' w' => ∃ v97 v68, Z Try.f7.ntmps a' ∧ a'.eval (.tmp 1) = .int .i64 x1 ∧ a'.eval (.tmp 3) = ptr b3 0 ∧ a'.eval (.tmp 5) = ptr b13 0 ∧ a'.eval (.tmp 6) = ptr b22 0 ∧ a'.eval (.tmp 7) = .bool false ∧ a'.eval (.tmp 8) = ptr b40 0 ∧ Bk w' b3 (TThing.C ({ x0 with waiters := t92 }) v97) 25 ∧ Bk w' b13 (TNote.C x2) 29 ∧ Bk w' b22 (TThing.C (⟨0, 0, 0, 0, Arr8.zero, [], 0, 0⟩ : TThing) (.slice none 0 0)) 25 ∧ Bk w' b40 (TThing.C ({ x0 with waiters := t63 }) v68) 25 ∧ OwnS KTWaiter 45 (ownB v97 ++ (ownB v68 ++ (b40 :: b22 :: b13 :: b3 :: L))) w' v97 t92 ∧ OwnS KTWaiter 45 (ownB v97 ++ (ownB v68 ++ (b40 :: b22 :: b13 :: b3 :: L))) w' v68 t63 ∧ Cx [] w (ownB v97 ++ (ownB v68 ++ (b40 :: b22 :: b13 :: b3 :: L))) w' ∧ Tr (b40 :: b22 :: b13 :: b3 :: L) w50 (ownB v97 ++ (ownB v68 ++ (b40 :: b22 :: b13 :: b3 :: L))) w' ∧ (∀ x ∈ ownB v97, x ∉ L) ∧ (∀ x ∈ ownB v97, x ∈ [] ∨ w.heap.size ≤ x) ∧ b3 ∉ ownB v97 ∧ b13 ∉ ownB v97 ∧ b22 ∉ ownB v97 ∧ b40 ∉ ownB v97 ∧ (∀ x ∈ ownB v68, x ∉ L) ∧ (∀ x ∈ ownB v68, x ∈ [] ∨ w.heap.size ≤ x) ∧ b3 ∉ ownB v68 ∧ b13 ∉ ownB v68 ∧ b22 ∉ ownB v68 ∧ b40 ∉ ownB v68 ∧ (∀ x ∈ ownB v97, x ∉ ownB v68)) ?_ ?_
  · refine regH (n := 10) [(1, fun w' => Cl w' b3 12 [h0_0]), (4, fun w' => Cl w' b3 12 [h0_0])] mixed rfl ?_
    have g144 := G.drew w50
    have cx145 := cx53.ca g144
    refine hTakeW (i := 0) rfl (by kernel_rfl) (by kernel_rfl) (by kernel_rfl) nrm (cond := fun _ => True) (.inl fun _ => trivial) p41.z (wN rfl) (fun _ _ => okFA (o' := 12) fo25_5 s137 rfl) trivial rfl fun a146 p147 sp147 => ?_
    have m148 := m141.g0 g144
    refine hTakeW (i := 1) rfl (by kernel_rfl) (by kernel_rfl) (by kernel_rfl) nrm (.inr (.head _)) p147.z (wN rfl) (fun _ h => okLd (j := 0) na23 sp147 h rfl rfl) (m148.clp rfl) rfl fun a149 p150 sp150 => ?_
    have s151 := p150.o (p147.o s137 rfl) rfl
    refine hTakeW (i := 3) rfl (by kernel_rfl) (by kernel_rfl) (by kernel_rfl) nrm (cond := fun _ => True) (.inl fun _ => trivial) p150.z (wN rfl) (fun _ _ => okFA (o' := 12) fo25_5 s151 rfl) trivial rfl fun a152 p153 sp153 => ?_
    refine hTakeW (i := 4) rfl (by kernel_rfl) (by kernel_rfl) (by kernel_rfl) nrm (.inr (.tail _ (.head _))) p153.z (wN rfl) (fun _ h => okLd (j := 0) na23 sp153 h rfl rfl) (m148.clp rfl) rfl fun a154 p155 sp155 => ?_
    have s156 := p155.o (p153.o sp150 rfl) rfl
    have q157 := q49.mono ((g52.t1 (.head _)).trans g144.t0)
    refine hOne (i := 2) (by kernel_rfl) rfl (oCall p155.z Try.call15 (ag1 s156) (c15 (b40 :: b22 :: b13 :: b3 :: L) w50.drew cx145.lt _ _ q157 _ ht64) rfl fun v161 a158 w159 hp162 p160 sp160 => ?_)
    have m166 := m142.g0 g144
    have m167 := m143.g0 g144
    have m168 := m51.g0 g144
    obtain ⟨q163, f164, g165⟩ := hp162
    have f169 := frN f164
    have nb170 := nbA hL cx145.g.sz (fun _ h => nilO h) f169
    have sf171 := sfA (S := []) cx145.g.sz (fun _ h => nilO h) f169
    have n172 := m148.no (fun h => nilO h) f169
    have n173 := m166.no (fun h => nilO h) f169
    have n174 := m167.no (fun h => nilO h) f169
    have n175 := m168.no (fun h => nilO h) f169
    have cx176 := cx145.ap g165 (fun _ h => nilO h) q163
    refine ⟨⟨.inl rfl, .inr fun h => h.g0 g165, trivial⟩, ?_⟩
    have s177 := p160.o (p155.o (p153.o (p150.o (p147.o sp41 rfl) rfl) rfl) rfl) rfl
    refine hTakeW (i := 6) rfl (by kernel_rfl) (by kernel_rfl) (by kernel_rfl) nrm (cond := fun _ => True) (.inl fun _ => trivial) p160.z (wN rfl) (fun _ _ => okFA (o' := 12) fo25_5 s177 rfl) trivial rfl fun a178 p179 sp179 => ?_
    have s180 := p179.o (p160.o sp155 rfl) rfl
    have q181 := q157.mono (tAp g165 (fun _ h => nilO h) f169)
    refine hOne (i := 5) (by kernel_rfl) rfl (oCall p179.z Try.call15 (ag1 s180) (c15 (ownB v161 ++ (b40 :: b22 :: b13 :: b3 :: L)) w159 cx176.lt _ _ q181 _ ht93) rfl fun v185 a182 w183 hp186 p184 sp184 => ?_)
    have m190 := m148.g0 g165
    have m191 := m166.g0 g165
    have m192 := m167.g0 g165
    have m193 := m168.g0 g165
    obtain ⟨q187, f188, g189⟩ := hp186
    have f194 := frN f188
    have nb195 := nbA hL cx176.g.sz (fun _ h => nilO h) f194
    have sf196 := sfA (S := []) cx176.g.sz (fun _ h => nilO h) f194
    have n197 := m190.no (fun h => nilO h) f194
    have n198 := m191.no (fun h => nilO h) f194
    have n199 := m192.no (fun h => nilO h) f194
    have n200 := m193.no (fun h => nilO h) f194
    have n201 := q163.dj (fun _ _ h => nilO h) f194
    have cx202 := cx176.ap g189 (fun _ h => nilO h) q187
    refine ⟨⟨.inr fun h => h.g0 g189, .inl rfl, trivial⟩, ?_⟩
    have s203 := p184.o sp179 rfl
    have s204 := p184.o (p179.o sp160 rfl) rfl
    have m205 := m193.g0 g189
    have q206 := q163.t0 (tAp g189 (fun _ h => nilO h) f194) g189
    refine hOne (i := 7) (by kernel_rfl) rfl (oSto (cs := [v161]) (l' := TThing.C ({ x0 with waiters := t63 }) v161) p184.z s203 s204 m205 Try.sizeOf23 q206.cells (oneS q206.one) rfl rfl fun w207 m208 g209 => ?_)
    have cx210 := cx202.st g209 f47
    refine ⟨⟨.inl rfl, .inr fun h => h.g1 g209 (m34.ne e44), trivial⟩, ?_⟩
    have s211 := p184.o (p179.o (p160.o (p155.o (p153.o s151 rfl) rfl) rfl) rfl) rfl
    refine hTakeW (i := 8) rfl (by kernel_rfl) (by kernel_rfl) (by kernel_rfl) nrm (cond := fun _ => True) (.inl fun _ => trivial) p184.z (wN rfl) (fun _ _ => okFA (o' := 12) fo25_5 s211 rfl) trivial rfl fun a212 p213 sp213 => ?_
    have s214 := p213.o sp184 rfl
    have m215 := (m190.g0 g189).g1 g209 (m34.ne e44)
    have q216 := q187.t1 (g209.t1 (List.mem_append_right _ (List.mem_append_right _ (.head _)))) g209 n200
    refine hOne (i := 9) (by kernel_rfl) rfl (oSto (cs := [v185]) (l' := TThing.C ({ x0 with waiters := t92 }) v185) p213.z sp213 s214 m215 Try.sizeOf23 q216.cells (oneS q216.one) rfl rfl fun w217 m218 g219 => ?_)
    have cx220 := cx210.st g219 f9
    refine ⟨⟨.inl rfl, .inl rfl, trivial⟩, ?_⟩
    have q221 := q216.t1 (g219.t1 (List.mem_append_right _ (List.mem_append_right _ (.tail _ (.tail _ (.tail _ (.head _))))))) g219 n197
    have q222 := (q206.t1 (g209.t1 (List.mem_append_right _ (List.mem_append_right _ (.head _)))) g209 n175).t1 (g219.t1 (List.mem_append_right _ (List.mem_append_right _ (.tail _ (.tail _ (.tail _ (.head _))))))) g219 n172
    have s223 := p213.o (p184.o (p179.o (p160.o (p155.o (p153.o (p150.o (p147.o s136 rfl) rfl) rfl) rfl) rfl) rfl) rfl) rfl
    have s224 := p213.o s211 rfl
    have s225 := p213.o (p184.o (p179.o (p160.o (p155.o (p153.o (p150.o (p147.o s138 rfl) rfl) rfl) rfl) rfl) rfl) rfl) rfl
    have s226 := p213.o (p184.o (p179.o (p160.o (p155.o (p153.o (p150.o (p147.o s139 rfl) rfl) rfl) rfl) rfl) rfl) rfl) rfl
    have s227 := p213.o (p184.o (p179.o (p160.o (p155.o (p153.o (p150.o (p147.o s140 rfl) rfl) rfl) rfl) rfl) rfl) rfl) rfl
    have s228 := p213.o (p184.o (p179.o s177 rfl) rfl) rfl
    have m229 := ((m191.g0 g189).g1 g209 (m45.ne e44)).g1 g219 (m5.ne e17).symm
    have m230 := ((m192.g0 g189).g1 g209 (m24.ne e44)).g1 g219 (m27.ne e26).symm
    have m231 := m208.g1 g219 (m34.ne e44).symm
    exact hDone (by kernel_rfl) ⟨rfl, v185, v161, p213.z, s223, s224, s225, s226, s227, s228, m218, m229, m230, m231, q221, q222, cx220, ((((g144.t0.trans (tAp g165 (fun _ h => nilO h) f169)).trans (tAp g189 (fun _ h => nilO h) f194)).trans (g209.t1 (List.mem_append_right _ (List.mem_append_right _ (.head _))))).trans (g219.t1 (List.mem_append_right _ (List.mem_append_right _ (.tail _ (.tail _ (.tail _ (.head _)))))))), nb195, sf196, n197, n198, n199, n200, nb170, sf171, n172, n173, n174, n175, (djs n201)⟩
  rintro a232 w233 ⟨h235, h236, z234, s237, s238, s239, s240, s241, s242, m243, m244, m245, m246, q247, q248, cx249, t250, n251, n252, n253, n254, n255, n256, n257, n258, n259, n260, n261, n262, n263⟩
  refine thenN ?_
  refine wp_seq ?_
  refine wp_seq ?_
  refine reg ?_
  refine s1 z234 (okMv s237) rfl fun a264 p265 s266 => ?_
  refine s1 p265.z (okLt s266 cst) rfl fun a267 p268 s269 => ?_
  refine s1 p268.z (okMv s269) rfl fun a270 p271 s272 => ?_
  refine cutP 3 (fun a' => Pg Try.f7.ntmps [23, 24, 25] a270 a' ∧ a'.eval (.tmp 25) = .bool ((decide (x1 < 0)) || (decide (8 ≤ x1)))) ?_ ?_
  · rcases bf (decide (x1 < 0)) with hb273 | hb273
    · have s274 := bv s272 hb273
      have s275 := p271.o (p268.o (p265.o s237 rfl) rfl) rfl
      refine s1g p271.z (okMv s275) rfl (yd p271.z rfl rfl s274) fun a276 p277 s278 => ?_
      have s279 := p277.o s274 rfl
      refine s1g p277.z (okGe s278 cst) rfl (yd p277.z rfl rfl s279) fun a280 p281 s282 => ?_
      have s283 := p281.o s279 rfl
      refine s1 p281.z (okPickF s283 s282) rfl fun a284 p285 s286 => ?_
      exact rN ⟨rfl, rfl, ((((Pg.refl p271.z).st p277 rfl).st p281 rfl).st p285 rfl), (orF hb273 s286)⟩
    · have s287 := bv s272 hb273
      refine s1k p271.z rfl (yd p271.z rfl rfl s287) rfl fun a288 p289 s290 => ?_
      have s291 := p289.o s287 rfl
      refine s1k p289.z rfl (yd p289.z rfl rfl s291) rfl fun a292 p293 s294 => ?_
      have s295 := p293.o s291 rfl
      refine s1 p293.z (okPickT s295 cst) rfl fun a296 p297 s298 => ?_
      exact rN ⟨rfl, rfl, ((((Pg.refl p271.z).st p289 rfl).st p293 rfl).st p297 rfl), (orT hb273 s298)⟩
  rintro a299 ⟨pg300, s301⟩
  refine rN (thenN ?_)
  have pg302 : Pg _ [20, 21, 22, 23, 24, 25] _ _ := (((((Pg.refl z234).st p265 rfl).st p268 rfl).st p271 rfl).tr pg300 rfl)
  refine cnd s301 (fun hb303 => ?_) (fun hb303 => ?_)
  · replace h := (ifP hb303).symm.trans h
    refine wp_seq ?_
    refine reg ?_
    have s304 := pg302.o s242 rfl
    refine s1 pg302.z (okLdA ag25 s304 (m246.cl) rfl rfl whole) rfl fun a305 p306 s307 => ?_
    have s308 := p306.o (pg302.o s240 rfl) rfl
    refine lS (oStoW (cs := TThing.C ({ x0 with waiters := t63 }) h236) p306.z s308 s307 m245 Try.sizeOf25 rfl (TThing.C_one _ q248.one) rfl fun w309 m310 g311 => ?_)
    have cx312 := cx249.st g311 f29
    refine s1 p306.z (okAs cst) rfl fun a313 p314 s315 => ?_
    refine rN (thenN ?_)
    have s316 := p314.o s308 rfl
    obtain rfl := Option.some.inj h
    have q317 := q248.t1 (g311.t1 (List.mem_append_right _ (List.mem_append_right _ (.tail _ (.head _))))) g311 n261
    exact wp_ret (thenR (ret2 p314.z Try.results7 (rvA ag25 s316 m310 rfl) (rvT s315) ⟨_, rfl, h236, rfl, (q317.rd (fun i h => (List.mem_append_right _ (List.mem_append_right _ (.tail _ (.tail _ (.tail _ (.tail _ h))))))) n257), cx312.g⟩))
  replace h := (ifN hb303).symm.trans h
  refine wp_skip (thenN ?_)
  refine wp_seq ?_
  refine wp_seq ?_
  refine reg ?_
  have s318 := pg302.o s239 rfl
  refine s1 pg302.z (okFA (o' := 0) fo29_0 s318 rfl) rfl fun a319 p320 s321 => ?_
  refine s1 p320.z (okLd (j := 0) na3 s321 (m244.cl) rfl rfl) rfl fun a322 p323 s324 => ?_
  refine s1 p323.z (okEq s324 cst) rfl fun a325 p326 s327 => ?_
  refine rN (thenN ?_)
  have pg328 : Pg _ [27, 28, 29] _ _ := ((((Pg.refl pg302.z).st p320 rfl).st p323 rfl).st p326 rfl)
  refine cnd s327 (fun hb329 => ?_) (fun hb329 => ?_)
  · replace h := (ifP hb329).symm.trans h
    refine wp_seq ?_
    have s433 := pg328.o (pg302.o s237 rfl) rfl
    have s434 := pg328.o (pg302.o s238 rfl) rfl
    have s435 := pg328.o s318 rfl
    have s436 := pg328.o (pg302.o s240 rfl) rfl
    have s437 := pg328.o (pg302.o s242 rfl) rfl
    refine regJ (fun a' w' => Z Try.f7.ntmps a' ∧ a'.eval (.tmp 1) = .int .i64 x1 ∧ a'.eval (.tmp 3) = ptr b3 0 ∧ a'.eval (.tmp 5) = ptr b13 0 ∧ a'.eval (.tmp 6) = ptr b22 0 ∧ a'.eval (.tmp 7) = .bool (((x2.value == 0) && (decide (1 ≤ x0.kind))) && (decide (x0.kind ≤ 5))) ∧ a'.eval (.tmp 8) = ptr b40 0 ∧ Bk w' b3 (TThing.C ({ x0 with waiters := t92 }) h235) 25 ∧ Bk w' b13 (TNote.C x2) 29 ∧ Bk w' b22 (TThing.C ({ x0 with waiters := t63 }) h236) 25 ∧ Bk w' b40 (TThing.C ({ x0 with waiters := t63 }) h236) 25 ∧ OwnS KTWaiter 45 (ownB h235 ++ (ownB h236 ++ (b40 :: b22 :: b13 :: b3 :: L))) w' h235 t92 ∧ OwnS KTWaiter 45 (ownB h235 ++ (ownB h236 ++ (b40 :: b22 :: b13 :: b3 :: L))) w' h236 t63 ∧ Cx [] w (ownB h235 ++ (ownB h236 ++ (b40 :: b22 :: b13 :: b3 :: L))) w' ∧ Tr (ownB h235 ++ (ownB h236 ++ (b40 :: b22 :: b13 :: b3 :: L))) w233 (ownB h235 ++ (ownB h236 ++ (b40 :: b22 :: b13 :: b3 :: L))) w') ?_ ?_
    · refine regH (n := 16) [(0, fun w' => Cl w' b40 0 (TThing.C ({ x0 with waiters := t63 }) h236)), (2, fun w' => Cl w' b13 1 [.int .i64 x2.value]), (6, fun w' => Cl w' b3 0 [.int .i64 x0.kind]), (11, fun w' => Cl w' b3 0 [.int .i64 x0.kind])] mixed rfl ?_
      have g438 := G.drew w233
      have cx439 := cx249.ca g438
      have m440 := m246.g0 g438
      refine hTakeW (i := 0) rfl (by kernel_rfl) (by kernel_rfl) (by kernel_rfl) nrm (.inr (.head _)) pg328.z (wN rfl) (fun _ h => okLdA ag25 s437 h rfl rfl whole) (m440.clp rfl) rfl fun a441 p442 sp442 => ?_
      have s443 := p442.o s435 rfl
      refine hTakeW (i := 1) rfl (by kernel_rfl) (by kernel_rfl) (by kernel_rfl) nrm (cond := fun _ => True) (.inl fun _ => trivial) p442.z (wN rfl) (fun _ _ => okFA (o' := 1) fo29_1 s443 rfl) trivial rfl fun a444 p445 sp445 => ?_
      have m446 := m244.g0 g438
      refine hTakeW (i := 2) rfl (by kernel_rfl) (by kernel_rfl) (by kernel_rfl) nrm (.inr (.tail _ (.head _))) p445.z (wN rfl) (fun _ h => okLd (j := 0) na2 sp445 h rfl rfl) (m446.clp rfl) rfl fun a447 p448 sp448 => ?_
      refine hTakeW (i := 3) rfl (by kernel_rfl) (by kernel_rfl) (by kernel_rfl) nrm (cond := fun _ => True) (.inl fun _ => trivial) p448.z (wN rfl) (fun _ _ => okEq sp448 cst) trivial rfl fun a449 p450 sp450 => ?_
      refine hTakeW (i := 4) rfl (by kernel_rfl) (by kernel_rfl) (by kernel_rfl) nrm (cond := fun _ => True) (.inl fun _ => trivial) p450.z (wN rfl) (fun _ _ => okMv sp450) trivial rfl fun a451 p452 sp452 => ?_
      rcases bf (x2.value == 0) with hb453 | hb453
      · have s454 := bv sp452 hb453
        refine hSkip (i := 5) rfl (by kernel_rfl) (by kernel_rfl) (by kernel_rfl) nrm rfl p452.z (yd p452.z rfl rfl s454) rfl rfl fun a455 p456 sp456 => ?_
        have s457 := p456.o s454 rfl
        refine hSkip (i := 6) rfl (by kernel_rfl) (by kernel_rfl) (by kernel_rfl) nrm rfl p456.z (yd p456.z rfl rfl s457) rfl rfl fun a458 p459 sp459 => ?_
        have s460 := p459.o s457 rfl
        refine hSkip (i := 7) rfl (by kernel_rfl) (by kernel_rfl) (by kernel_rfl) nrm rfl p459.z (yd p459.z rfl rfl s460) rfl rfl fun a461 p462 sp462 => ?_
        have s463 := p462.o s460 rfl
        refine hTakeW (i := 8) rfl (by kernel_rfl) (by kernel_rfl) (by kernel_rfl) nrm (cond := fun _ => True) (.inl fun _ => trivial) p462.z (wN rfl) (fun _ _ => okPickF s463 cst) trivial rfl fun a464 p465 sp465 => ?_
        refine hTakeW (i := 9) rfl (by kernel_rfl) (by kernel_rfl) (by kernel_rfl) nrm (cond := fun _ => True) (.inl fun _ => trivial) p465.z (wN rfl) (fun _ _ => okMv sp465) trivial rfl fun a466 p467 sp467 => ?_
        refine hSkip (i := 10) rfl (by kernel_rfl) (by kernel_rfl) (by kernel_rfl) nrm rfl p467.z (yd p467.z rfl rfl sp467) rfl rfl fun a468 p469 sp469 => ?_
        have s470 := p469.o sp467 rfl
        refine hSkip (i := 11) rfl (by kernel_rfl) (by kernel_rfl) (by kernel_rfl) nrm rfl p469.z (yd p469.z rfl rfl s470) rfl rfl fun a471 p472 sp472 => ?_
        have s473 := p472.o s470 rfl
        refine hSkip (i := 12) rfl (by kernel_rfl) (by kernel_rfl) (by kernel_rfl) nrm rfl p472.z (yd p472.z rfl rfl s473) rfl rfl fun a474 p475 sp475 => ?_
        have s476 := p475.o s473 rfl
        refine hTakeW (i := 13) rfl (by kernel_rfl) (by kernel_rfl) (by kernel_rfl) nrm (cond := fun _ => True) (.inl fun _ => trivial) p475.z (wN rfl) (fun _ _ => okPickF s476 cst) trivial rfl fun a477 p478 sp478 => ?_
        have s479 := p478.o (p475.o (p472.o (p469.o (p467.o (p465.o (p462.o (p459.o (p456.o (p452.o (p450.o (p448.o (p445.o (p442.o s436 rfl) rfl) rfl) rfl) rfl) rfl) rfl) rfl) rfl) rfl) rfl) rfl) rfl) rfl
        have s480 := p478.o (p475.o (p472.o (p469.o (p467.o (p465.o (p462.o (p459.o (p456.o (p452.o (p450.o (p448.o (p445.o sp442 rfl) rfl) rfl) rfl) rfl) rfl) rfl) rfl) rfl) rfl) rfl) rfl) rfl
        have m481 := m245.g0 g438
        have q482 := q248.t0 g438.t0 g438
        refine hOne (i := 14) (by kernel_rfl) rfl (oStoW (cs := TThing.C ({ x0 with waiters := t63 }) h236) p478.z s479 s480 m481 Try.sizeOf25 rfl (TThing.C_one _ q482.one) rfl fun w483 m484 g485 => ?_)
        have cx486 := cx439.st g485 f29
        refine ⟨⟨.inl rfl, .inr fun h => h.g1 g485 (m15.ne e26), .inr fun h => h.g1 g485 (m27.ne e26), .inr fun h => h.g1 g485 (m27.ne e26), trivial⟩, ?_⟩
        refine hTakeW (i := 15) rfl (by kernel_rfl) (by kernel_rfl) (by kernel_rfl) nrm (cond := fun _ => True) (.inl fun _ => trivial) p478.z (wN rfl) (fun _ _ => okAs sp478) trivial rfl fun a487 p488 sp488 => ?_
        have q489 := (q247.t0 g438.t0 g438).t1 (g485.t1 (List.mem_append_right _ (List.mem_append_right _ (.tail _ (.head _))))) g485 n255
        have q490 := q482.t1 (g485.t1 (List.mem_append_right _ (List.mem_append_right _ (.tail _ (.head _))))) g485 n261
        have s491 := p488.o (p478.o (p475.o (p472.o (p469.o (p467.o (p465.o (p462.o (p459.o (p456.o (p452.o (p450.o (p448.o (p445.o (p442.o s433 rfl) rfl) rfl) rfl) rfl) rfl) rfl) rfl) rfl) rfl) rfl) rfl) rfl) rfl) rfl
        have s492 := p488.o (p478.o (p475.o (p472.o (p469.o (p467.o (p465.o (p462.o (p459.o (p456.o (p452.o (p450.o (p448.o (p445.o (p442.o s434 rfl) rfl) rfl) rfl) rfl) rfl) rfl) rfl) rfl) rfl) rfl) rfl) rfl) rfl) rfl
        have s493 := p488.o (p478.o (p475.o (p472.o (p469.o (p467.o (p465.o (p462.o (p459.o (p456.o (p452.o (p450.o (p448.o (p445.o s443 rfl) rfl) rfl) rfl) rfl) rfl) rfl) rfl) rfl) rfl) rfl) rfl) rfl) rfl
        have s494 := p488.o s479 rfl
        have s495 := p488.o (p478.o (p475.o (p472.o (p469.o (p467.o (p465.o (p462.o (p459.o (p456.o (p452.o (p450.o (p448.o (p445.o (p442.o s437 rfl) rfl) rfl) rfl) rfl) rfl) rfl) rfl) rfl) rfl) rfl) rfl) rfl) rfl) rfl
        have m496 := (m243.g0 g438).g1 g485 (m27.ne e26)
        have m497 := m446.g1 g485 (m15.ne e26)
        have m498 := m440.g1 g485 (m24.ne e44).symm
        exact hDone (by kernel_rfl) ⟨rfl, p488.z, s491, s492, s493, s494, (bvE sp488 (by simp [hb453])), s495, m496, m497, m484, m498, q489, q490, cx486, (g438.t0.trans (g485.t1 (List.mem_append_right _ (List.mem_append_right _ (.tail _ (.head _))))))⟩
      · have s499 := bv sp452 hb453
        have s500 := p452.o (p450.o (p448.o (p445.o (p442.o s434 rfl) rfl) rfl) rfl) rfl
        refine hTakeW (i := 5) rfl (by kernel_rfl) (by kernel_rfl) (by kernel_rfl) nrm (cond := fun _ => True) (.inl fun _ => trivial) p452.z (wG rfl (yd p452.z rfl rfl s499)) (fun _ _ => okFA (o' := 0) fo25_0 s500 rfl) trivial rfl fun a501 p502 sp502 => ?_
        have s503 := p502.o s499 rfl
        have m504 := m243.g0 g438
        refine hTakeW (i := 6) rfl (by kernel_rfl) (by kernel_rfl) (by kernel_rfl) nrm (.inr (.tail _ (.tail _ (.head _)))) p502.z (wG rfl (yd p502.z rfl rfl s503)) (fun _ h => okLd (j := 0) na3 sp502 h rfl rfl) (m504.clp rfl) rfl fun a505 p506 sp506 => ?_
        have s507 := p506.o s503 rfl
        refine hTakeW (i := 7) rfl (by kernel_rfl) (by kernel_rfl) (by kernel_rfl) nrm (cond := fun _ => True) (.inl fun _ => trivial) p506.z (wG rfl (yd p506.z rfl rfl s507)) (fun _ _ => okGe sp506 cst) trivial rfl fun a508 p509 sp509 => ?_
        have s510 := p509.o s507 rfl
        refine hTakeW (i := 8) rfl (by kernel_rfl) (by kernel_rfl) (by kernel_rfl) nrm (cond := fun _ => True) (.inl fun _ => trivial) p509.z (wN rfl) (fun _ _ => okPickT s510 sp509) trivial rfl fun a511 p512 sp512 => ?_
        refine hTakeW (i := 9) rfl (by kernel_rfl) (by kernel_rfl) (by kernel_rfl) nrm (cond := fun _ => True) (.inl fun _ => trivial) p512.z (wN rfl) (fun _ _ => okMv sp512) trivial rfl fun a513 p514 sp514 => ?_
        rcases bf (decide (1 ≤ x0.kind)) with hb515 | hb515
        · have s516 := bv sp514 hb515
          refine hSkip (i := 10) rfl (by kernel_rfl) (by kernel_rfl) (by kernel_rfl) nrm rfl p514.z (yd p514.z rfl rfl s516) rfl rfl fun a517 p518 sp518 => ?_
          have s519 := p518.o s516 rfl
          refine hSkip (i := 11) rfl (by kernel_rfl) (by kernel_rfl) (by kernel_rfl) nrm rfl p518.z (yd p518.z rfl rfl s519) rfl rfl fun a520 p521 sp521 => ?_
          have s522 := p521.o s519 rfl
          refine hSkip (i := 12) rfl (by kernel_rfl) (by kernel_rfl) (by kernel_rfl) nrm rfl p521.z (yd p521.z rfl rfl s522) rfl rfl fun a523 p524 sp524 => ?_
          have s525 := p524.o s522 rfl
          refine hTakeW (i := 13) rfl (by kernel_rfl) (by kernel_rfl) (by kernel_rfl) nrm (cond := fun _ => True) (.inl fun _ => trivial) p524.z (wN rfl) (fun _ _ => okPickF s525 cst) trivial rfl fun a526 p527 sp527 => ?_
          have s528 := p527.o (p524.o (p521.o (p518.o (p514.o (p512.o (p509.o (p506.o (p502.o (p452.o (p450.o (p448.o (p445.o (p442.o s436 rfl) rfl) rfl) rfl) rfl) rfl) rfl) rfl) rfl) rfl) rfl) rfl) rfl) rfl
          have s529 := p527.o (p524.o (p521.o (p518.o (p514.o (p512.o (p509.o (p506.o (p502.o (p452.o (p450.o (p448.o (p445.o sp442 rfl) rfl) rfl) rfl) rfl) rfl) rfl) rfl) rfl) rfl) rfl) rfl) rfl
          have m530 := m245.g0 g438
          have q531 := q248.t0 g438.t0 g438
          refine hOne (i := 14) (by kernel_rfl) rfl (oStoW (cs := TThing.C ({ x0 with waiters := t63 }) h236) p527.z s528 s529 m530 Try.sizeOf25 rfl (TThing.C_one _ q531.one) rfl fun w532 m533 g534 => ?_)
          have cx535 := cx439.st g534 f29
          refine ⟨⟨.inl rfl, .inr fun h => h.g1 g534 (m15.ne e26), .inr fun h => h.g1 g534 (m27.ne e26), .inr fun h => h.g1 g534 (m27.ne e26), trivial⟩, ?_⟩
          refine hTakeW (i := 15) rfl (by kernel_rfl) (by kernel_rfl) (by kernel_rfl) nrm (cond := fun _ => True) (.inl fun _ => trivial) p527.z (wN rfl) (fun _ _ => okAs sp527) trivial rfl fun a536 p537 sp537 => ?_
          have q538 := (q247.t0 g438.t0 g438).t1 (g534.t1 (List.mem_append_right _ (List.mem_append_right _ (.tail _ (.head _))))) g534 n255
          have q539 := q531.t1 (g534.t1 (List.mem_append_right _ (List.mem_append_right _ (.tail _ (.head _))))) g534 n261
          have s540 := p537.o (p527.o (p524.o (p521.o (p518.o (p514.o (p512.o (p509.o (p506.o (p502.o (p452.o (p450.o (p448.o (p445.o (p442.o s433 rfl) rfl) rfl) rfl) rfl) rfl) rfl) rfl) rfl) rfl) rfl) rfl) rfl) rfl) rfl
          have s541 := p537.o (p527.o (p524.o (p521.o (p518.o (p514.o (p512.o (p509.o (p506.o (p502.o s500 rfl) rfl) rfl) rfl) rfl) rfl) rfl) rfl) rfl) rfl
          have s542 := p537.o (p527.o (p524.o (p521.o (p518.o (p514.o (p512.o (p509.o (p506.o (p502.o (p452.o (p450.o (p448.o (p445.o s443 rfl) rfl) rfl) rfl) rfl) rfl) rfl) rfl) rfl) rfl) rfl) rfl) rfl) rfl
          have s543 := p537.o s528 rfl
          have s544 := p537.o (p527.o (p524.o (p521.o (p518.o (p514.o (p512.o (p509.o (p506.o (p502.o (p452.o (p450.o (p448.o (p445.o (p442.o s437 rfl) rfl) rfl) rfl) rfl) rfl) rfl) rfl) rfl) rfl) rfl) rfl) rfl) rfl) rfl
          have m545 := m504.g1 g534 (m27.ne e26)
          have m546 := m446.g1 g534 (m15.ne e26)
          have m547 := m440.g1 g534 (m24.ne e44).symm
          exact hDone (by kernel_rfl) ⟨rfl, p537.z, s540, s541, s542, s543, (bvE sp537 (by simp [hb453, hb515])), s544, m545, m546, m533, m547, q538, q539, cx535, (g438.t0.trans (g534.t1 (List.mem_append_right _ (List.mem_append_right _ (.tail _ (.head _))))))⟩
        · have s548 := bv sp514 hb515
          have s549 := p514.o (p512.o (p509.o (p506.o (p502.o s500 rfl) rfl) rfl) rfl) rfl
          refine hTakeW (i := 10) rfl (by kernel_rfl) (by kernel_rfl) (by kernel_rfl) nrm (cond := fun _ => True) (.inl fun _ => trivial) p514.z (wG rfl (yd p514.z rfl rfl s548)) (fun _ _ => okFA (o' := 0) fo25_0 s549 rfl) trivial rfl fun a550 p551 sp551 => ?_
          have s552 := p551.o s548 rfl
          refine hTakeW (i := 11) rfl (by kernel_rfl) (by kernel_rfl) (by kernel_rfl) nrm (.inr (.tail _ (.tail _ (.tail _ (.head _))))) p551.z (wG rfl (yd p551.z rfl rfl s552)) (fun _ h => okLd (j := 0) na3 sp551 h rfl rfl) (m504.clp rfl) rfl fun a553 p554 sp554 => ?_
          have s555 := p554.o s552 rfl
          refine hTakeW (i := 12) rfl (by kernel_rfl) (by kernel_rfl) (by kernel_rfl) nrm (cond := fun _ => True) (.inl fun _ => trivial) p554.z (wG rfl (yd p554.z rfl rfl s555)) (fun _ _ => okLe sp554 cst) trivial rfl fun a556 p557 sp557 => ?_
          have s558 := p557.o s555 rfl
          refine hTakeW (i := 13) rfl (by kernel_rfl) (by kernel_rfl) (by kernel_rfl) nrm (cond := fun _ => True) (.inl fun _ => trivial) p557.z (wN rfl) (fun _ _ => okPickT s558 sp557) trivial rfl fun a559 p560 sp560 => ?_
          have s561 := p560.o (p557.o (p554.o (p551.o (p514.o (p512.o (p509.o (p506.o (p502.o (p452.o (p450.o (p448.o (p445.o (p442.o s436 rfl) rfl) rfl) rfl) rfl) rfl) rfl) rfl) rfl) rfl) rfl) rfl) rfl) rfl
          have s562 := p560.o (p557.o (p554.o (p551.o (p514.o (p512.o (p509.o (p506.o (p502.o (p452.o (p450.o (p448.o (p445.o sp442 rfl) rfl) rfl) rfl) rfl) rfl) rfl) rfl) rfl) rfl) rfl) rfl) rfl
          have m563 := m245.g0 g438
          have q564 := q248.t0 g438.t0 g438
          refine hOne (i := 14) (by kernel_rfl) rfl (oStoW (cs := TThing.C ({ x0 with waiters := t63 }) h236) p560.z s561 s562 m563 Try.sizeOf25 rfl (TThing.C_one _ q564.one) rfl fun w565 m566 g567 => ?_)
          have cx568 := cx439.st g567 f29
          refine ⟨⟨.inl rfl, .inr fun h => h.g1 g567 (m15.ne e26), .inr fun h => h.g1 g567 (m27.ne e26), .inr fun h => h.g1 g567 (m27.ne e26), trivial⟩, ?_⟩
          refine hTakeW (i := 15) rfl (by kernel_rfl) (by kernel_rfl) (by kernel_rfl) nrm (cond := fun _ => True) (.inl fun _ => trivial) p560.z (wN rfl) (fun _ _ => okAs sp560) trivial rfl fun a569 p570 sp570 => ?_
          have q571 := (q247.t0 g438.t0 g438).t1 (g567.t1 (List.mem_append_right _ (List.mem_append_right _ (.tail _ (.head _))))) g567 n255
          have q572 := q564.t1 (g567.t1 (List.mem_append_right _ (List.mem_append_right _ (.tail _ (.head _))))) g567 n261
          have s573 := p570.o (p560.o (p557.o (p554.o (p551.o (p514.o (p512.o (p509.o (p506.o (p502.o (p452.o (p450.o (p448.o (p445.o (p442.o s433 rfl) rfl) rfl) rfl) rfl) rfl) rfl) rfl) rfl) rfl) rfl) rfl) rfl) rfl) rfl
          have s574 := p570.o (p560.o (p557.o (p554.o (p551.o s549 rfl) rfl) rfl) rfl) rfl
          have s575 := p570.o (p560.o (p557.o (p554.o (p551.o (p514.o (p512.o (p509.o (p506.o (p502.o (p452.o (p450.o (p448.o (p445.o s443 rfl) rfl) rfl) rfl) rfl) rfl) rfl) rfl) rfl) rfl) rfl) rfl) rfl) rfl
          have s576 := p570.o s561 rfl
          have s577 := p570.o (p560.o (p557.o (p554.o (p551.o (p514.o (p512.o (p509.o (p506.o (p502.o (p452.o (p450.o (p448.o (p445.o (p442.o s437 rfl) rfl) rfl) rfl) rfl) rfl) rfl) rfl) rfl) rfl) rfl) rfl) rfl) rfl) rfl
          have m578 := m504.g1 g567 (m27.ne e26)
          have m579 := m446.g1 g567 (m15.ne e26)
          have m580 := m440.g1 g567 (m24.ne e44).symm
          exact hDone (by kernel_rfl) ⟨rfl, p570.z, s573, s574, s575, s576, (bvE sp570 (by simp [hb453, hb515])), s577, m578, m579, m566, m580, q571, q572, cx568, (g438.t0.trans (g567.t1 (List.mem_append_right _ (List.mem_append_right _ (.tail _ (.head _))))))⟩
    rintro a581 w582 ⟨z583, s584, s585, s586, s587, s588, s589, m590, m591, m592, m593, q594, q595, cx596, t597⟩
    refine thenN ?_
    obtain rfl := Option.some.inj h
    exact wp_ret (thenR (ret2 z583 Try.results7 (rvA ag25 s587 m592 rfl) (rvT s588) ⟨_, rfl, h236, rfl, (q595.rd (fun i h => (List.mem_append_right _ (List.mem_append_right _ (.tail _ (.tail _ (.tail _ (.tail _ h))))))) n257), cx596.g⟩))
  replace h := (ifN hb329).symm.trans h
  refine wp_skip (thenN ?_)
  refine wp_seq ?_
  refine wp_seq ?_
  refine reg ?_
  have s598 := pg328.o (pg302.o s238 rfl) rfl
  refine s1 pg328.z (okLdA ag25 s598 (m243.cl) rfl rfl whole) rfl fun a599 p600 s601 => ?_
  have s602 := p600.o (pg328.o (pg302.o s237 rfl) rfl) rfl
  refine s1 p600.z (okMv s602) rfl fun a603 p604 s605 => ?_
  have s606 := p604.o (p600.o (pg328.o s318 rfl) rfl) rfl
  refine s1 p604.z (okLdA ag29 s606 (m244.cl) rfl rfl whole) rfl fun a607 p608 s609 => ?_
  have s610 := p608.o (p604.o s601 rfl) rfl
  have s611 := p608.o s605 rfl
  obtain ⟨t612, ht613, h⟩ := Option.bind_eq_some_iff.1 h
  refine lS (oCall p608.z Try.call16 (ag3 s610 s611 s609) (c16 k (ownB h236 ++ (b40 :: b22 :: b13 :: b3 :: L)) w233 (fun b h => cx249.lt b ((fun i h => (List.mem_append_right _ h)) b h)) _ _ (q247.sub (fun _ h => h)) (fun b hb => (not_app (n263 _ hb) (not_cons (fun e => n256 (e ▸ hb)) (not_cons (fun e => n255 (e ▸ hb)) (not_cons (fun e => n254 (e ▸ hb)) (not_cons (fun e => n253 (e ▸ hb)) (n251 _ hb))))))) _ _ _ ht613) rfl fun v617 a614 w615 hp618 p616 sp616 => ?_)
  obtain ⟨h619, rfl, q620, g621⟩ := hp618
  have cx622 := (cx249.cs g621 n252).sub (fun i h => (List.mem_append_right _ h))
  refine s1 p616.z (okMv sp616) rfl fun a623 p624 s625 => ?_
  refine s1 p624.z (okExt (vs := [_, _]) s625 rfl) rfl fun a626 p627 s628 => ?_
  have s629 := p627.o s625 rfl
  refine s1 p627.z (okExt (vs := [_, _]) s629 rfl) rfl fun a630 p631 s632 => ?_
  have m640 := m243.g g621 n253
  have m641 := m244.g g621 n254
  have m642 := m245.g g621 n255
  have m643 := m246.g g621 n256
  have q644 := q248.tr ((g621.t (fun _ h => (List.mem_append_left _ h))).sub (fun i h => (List.mem_append_right _ h))) g621 (djs n263)
  refine lS (oAlloc zv25 p631.z rfl fun a633 w634 b635 p636 sp636 m637 g638 e639 => ?_)
  have f646 := cx622.nw e639
  have cx645 := cx622.al g638 m637
  have s647 := p636.o (p631.o s628 rfl) rfl
  have q648 := q620.mono (g638.tA (Nat.le_of_eq e639.symm))
  refine lS (oStoW (cs := TThing.C t612.1 h619) p636.z sp636 s647 m637 Try.sizeOf25 rfl (TThing.C_one _ q648.one) rfl fun w649 m650 g651 => ?_)
  have cx652 := cx645.st g651 f646
  have s653 := p636.o s632 rfl
  refine s1 p636.z (okAs s653) rfl fun a654 p655 s656 => ?_
  refine rN (thenN ?_)
  refine wp_seq ?_
  refine reg ?_
  refine s1 p655.z (okMv s656) rfl fun a657 p658 s659 => ?_
  refine rN (thenN ?_)
  have s660 := p658.o (p655.o sp636 rfl) rfl
  have pg661 : Pg _ [9, 10, 44, 45, 46, 47, 48, 49, 50, 51] _ _ := (((((((((((Pg.refl pg328.z).st p600 rfl).st p604 rfl).st p608 rfl).st p616 rfl).st p624 rfl).st p627 rfl).st p631 rfl).st p636 rfl).st p655 rfl).st p658 rfl)
  refine cnd s659 (fun hb662 => ?_) (fun hb662 => ?_)
  · replace h := (ifP hb662).symm.trans h
    refine wp_seq ?_
    refine reg ?_
    refine s1 pg661.z (okLdA ag25 s660 (m650.cl) rfl rfl whole) rfl fun a663 p664 s665 => ?_
    have s666 := p664.o (pg661.o (pg328.o (pg302.o s240 rfl) rfl) rfl) rfl
    have m667 := (m642.g0 g638).g1 g651 (m642.ne e639)
    have q668 := q648.mono (g651.t1 (.head _))
    refine lS (oStoW (cs := TThing.C t612.1 h619) p664.z s666 s665 m667 Try.sizeOf25 rfl (TThing.C_one _ q668.one) rfl fun w669 m670 g671 => ?_)
    have cx672 := cx652.st g671 f29
    refine s1 p664.z (okAs cst) rfl fun a673 p674 s675 => ?_
    refine rN (thenN ?_)
    have s676 := p674.o s666 rfl
    obtain rfl := Option.some.inj h
    have q677 := q668.mono (g671.t1 (.tail _ (List.mem_append_right _ (.tail _ (.head _)))))
    exact wp_ret (thenR (ret2 p674.z Try.results7 (rvA ag25 s676 m670 rfl) (rvT s675) ⟨_, rfl, h619, rfl, (q677.mono ((Tr.refl _ _).sub (fun i h => (.tail _ (List.mem_append_right _ (.tail _ (.tail _ (.tail _ (.tail _ h))))))))), cx672.g⟩))
  replace h := (ifN hb662).symm.trans h
  refine wp_skip (thenN ?_)
  refine wp_seq ?_
  refine reg ?_
  have s678 := pg661.o (pg328.o (pg302.o s242 rfl) rfl) rfl
  have m679 := (m643.g0 g638).g1 g651 (m643.ne e639)
  refine s1 pg661.z (okLdA ag25 s678 (m679.cl) rfl rfl whole) rfl fun a680 p681 s682 => ?_
  have s683 := p681.o (pg661.o (pg328.o (pg302.o s240 rfl) rfl) rfl) rfl
  have m684 := (m642.g0 g638).g1 g651 (m642.ne e639)
  have q685 := (q644.t0 (g638.tA (Nat.le_of_eq e639.symm)) g638).t1 (g651.t1 (.head _)) g651 (q644.nb e639)
  refine lS (oStoW (cs := TThing.C ({ x0 with waiters := t63 }) h236) p681.z s683 s682 m684 Try.sizeOf25 rfl (TThing.C_one _ q685.one) rfl fun w686 m687 g688 => ?_)
  have cx689 := cx652.st g688 f29
  refine s1 p681.z (okAs cst) rfl fun a690 p691 s692 => ?_
  refine rN (thenN ?_)
  have s693 := p691.o s683 rfl
  obtain rfl := Option.some.inj h
  have q694 := q685.t1 (g688.t1 (.tail _ (List.mem_append_right _ (.tail _ (.head _))))) g688 n261
  exact wp_ret (ret2 p691.z Try.results7 (rvA ag25 s693 m687 rfl) (rvT s692) ⟨_, rfl, h236, rfl, (q694.rd (fun i h => (.tail _ (List.mem_append_right _ (.tail _ (.tail _ (.tail _ (.tail _ h))))))) n257), cx689.g⟩)

set_option maxHeartbeats 4000000 in
theorem c9 (L : List Nat) (w : World) (hL : ∀ b ∈ L, b < w.heap.size) (x0 : TObject) (r : TThing) (h : model_New x0 = some r) : Calls Try.prog 9 #[.agg (TObject.C x0).toArray] w (fun e w' => ∃ v, e = .returned v ∧ ∃ u_0, v = .agg (TThing.C r u_0).toArray ∧ RdS KTWaiter L w' u_0 r.waiters ∧ G [] w w') := by
  refine enterF Try.func9 rfl rfl fun a0 z0 A => ?_
  have s0_0 := A 0 (.agg (TObject.C x0).toArray) rfl
  clear A
  have c0 : Cx [] w L w := ⟨G.refl _ _, hL⟩
  unfold model_New at h
  refine wp_seq ?_
  refine reg ?_
  refine lS (oBox (l := TObject.C x0) z0 s0_0 rfl rfl fun a1 w2 b3 p4 sp4 m5 g6 e7 => ?_)
  have f9 := c0.nw e7
  have cx8 := c0.al g6 m5
  refine lS (oAlloc zv25 p4.z rfl fun a10 w11 b12 p13 sp13 m14 g15 e16 => ?_)
  have f18 := cx8.nw e16
  have cx17 := cx8.al g15 m14
  refine rN (thenN ?_)
  refine wp_seq ?_
  refine reg ?_
  have s19 := p13.o sp4 rfl
  refine s1 p13.z (okFA (o' := 0) fo36_0 s19 rfl) rfl fun a20 p21 s22 => ?_
  have m23 := m5.g0 g15
  refine s1 p21.z (okLd (j := 0) na3 s22 (m23.cl) rfl rfl) rfl fun a24 p25 s26 => ?_
  have s27 := p25.o (p21.o s19 rfl) rfl
  refine s1 p25.z (okFA (o' := 2) fo36_2 s27 rfl) rfl fun a28 p29 s30 => ?_
  refine s1 p29.z (okLd (j := 2) na3 s30 (m23.cl) rfl rfl) rfl fun a31 p32 s33 => ?_
  have s34 := p32.o (p29.o s26 rfl) rfl
  refine s1 p32.z (okBd (pb4 s34 s33 cst cst) (bd25_0_1_2_6 x0.kind x0.n (-1) (-1) _)) rfl fun a35 p36 s37 => ?_
  have s38 := p36.o (p32.o (p29.o (p25.o (p21.o sp13 rfl) rfl) rfl) rfl) rfl
  refine lS (oStoW (cs := TThing.C (⟨x0.kind, x0.n, (-1), 0, Arr8.zero, [], (-1), 0⟩ : TThing) (.slice none 0 0)) p36.z s38 s37 m14 Try.sizeOf25 rfl (TThing.C_one _ rfl) rfl fun w39 m40 g41 => ?_)
  have cx42 := cx17.st g41 f18
  refine rN (thenN ?_)
  obtain rfl := Option.some.inj h
  exact wp_ret (ret1 p36.z Try.results9 (rvA ag25 s38 m40 rfl) ⟨_, rfl, (.slice none 0 0), rfl, RdS.nil, cx42.g⟩)

set_option maxHeartbeats 4000000 in
theorem c5 (k : Nat) (L : List Nat) (w : World) (hL : ∀ b ∈ L, b < w.heap.size)  (r : Bool) (h : tholelaw10_up k = some r) : Calls Try.prog 5 #[] w (fun e w' => ∃ v, e = .returned v ∧ v = .bool r ∧ G [] w w') := by
  refine enterF Try.func5 rfl rfl fun a0 z0 A => ?_
  clear A
  have c0 : Cx [] w L w := ⟨G.refl _ _, hL⟩
  unfold tholelaw10_up at h
  refine wp_seq ?_
  refine reg ?_
  refine s1 z0 (okAs cst) rfl fun a1 p2 s3 => ?_
  refine rN (thenN ?_)
  refine wp_seq ?_
  refine reg ?_
  refine s1 p2.z (okBd (pb1 cst) (bd36_0 1 _)) rfl fun a4 p5 s6 => ?_
  obtain ⟨t7, ht8, h⟩ := Option.bind_eq_some_iff.1 h
  refine lS (oCall p5.z Try.call9 (ag1 s6) (c9 L w c0.lt _ _ ht8) rfl fun v12 a9 w10 hp13 p11 sp11 => ?_)
  obtain ⟨h14, rfl, q15, g16⟩ := hp13
  have cx17 := c0.ca g16
  refine s1 p11.z (okBd (pb2 cst cst) (bd29_0_1 1 1 _)) rfl fun a18 p19 s20 => ?_
  have s21 := p19.o sp11 rfl
  obtain ⟨t22, ht23, h⟩ := Option.bind_eq_some_iff.1 h
  refine lS (oCall p19.z Try.call7 (ag3 s21 cst s20) (c7 k L w10 cx17.lt _ _ q15 _ _ _ ht23) rfl fun v27 a24 w25 hp28 p26 sp26 => ?_)
  obtain ⟨h29, rfl, q30, g31⟩ := hp28
  have cx32 := cx17.ca g31
  refine s1 p26.z (okMv sp26) rfl fun a33 p34 s35 => ?_
  refine s1 p34.z (okExt (vs := [_, _]) s35 rfl) rfl fun a36 p37 s38 => ?_
  have s39 := p37.o s35 rfl
  refine s1 p37.z (okExt (vs := [_, _]) s39 rfl) rfl fun a40 p41 s42 => ?_
  refine lS (oAlloc zv25 p41.z rfl fun a43 w44 b45 p46 sp46 m47 g48 e49 => ?_)
  have f51 := cx32.nw e49
  have cx50 := cx32.al g48 m47
  have s52 := p46.o (p41.o s38 rfl) rfl
  have q53 := q30.mono (g48.tA (Nat.le_of_eq e49.symm))
  refine lS (oStoW (cs := TThing.C t22.1 h29) p46.z sp46 s52 m47 Try.sizeOf25 rfl (TThing.C_one _ q53.one) rfl fun w54 m55 g56 => ?_)
  have cx57 := cx50.st g56 f51
  have s58 := p46.o s42 rfl
  refine s1 p46.z (okAs s58) rfl fun a59 p60 s61 => ?_
  refine rN (thenN ?_)
  refine wp_seq ?_
  refine reg ?_
  refine s1 p60.z (okBd (pb1 cst) (bd36_0 1 _)) rfl fun a62 p63 s64 => ?_
  obtain ⟨t65, ht66, h⟩ := Option.bind_eq_some_iff.1 h
  refine lS (oCall p63.z Try.call9 (ag1 s64) (c9 (b45 :: L) w54 cx57.lt _ _ ht66) rfl fun v70 a67 w68 hp71 p69 sp69 => ?_)
  obtain ⟨h72, rfl, q73, g74⟩ := hp71
  have cx75 := cx57.ca g74
  refine s1 p69.z (okBd (pb1 cst) (bd29_0 3 _)) rfl fun a76 p77 s78 => ?_
  have s79 := p77.o sp69 rfl
  obtain ⟨t80, ht81, h⟩ := Option.bind_eq_some_iff.1 h
  refine lS (oCall p77.z Try.call7 (ag3 s79 cst s78) (c7 k (b45 :: L) w68 cx75.lt _ _ q73 _ _ _ ht81) rfl fun v85 a82 w83 hp86 p84 sp84 => ?_)
  obtain ⟨h87, rfl, q88, g89⟩ := hp86
  have cx90 := cx75.ca g89
  refine s1 p84.z (okMv sp84) rfl fun a91 p92 s93 => ?_
  refine s1 p92.z (okExt (vs := [_, _]) s93 rfl) rfl fun a94 p95 s96 => ?_
  have s97 := p95.o s93 rfl
  refine s1 p95.z (okExt (vs := [_, _]) s97 rfl) rfl fun a98 p99 s100 => ?_
  have m108 := (m55.g0 g74).g0 g89
  refine lS (oAlloc zv25 p99.z rfl fun a101 w102 b103 p104 sp104 m105 g106 e107 => ?_)
  have f110 := cx90.nw e107
  have cx109 := cx90.al g106 m105
  have s111 := p104.o (p99.o s96 rfl) rfl
  have q112 := q88.mono (g106.tA (Nat.le_of_eq e107.symm))
  refine lS (oStoW (cs := TThing.C t80.1 h87) p104.z sp104 s111 m105 Try.sizeOf25 rfl (TThing.C_one _ q112.one) rfl fun w113 m114 g115 => ?_)
  have cx116 := cx109.st g115 f110
  have s117 := p104.o s100 rfl
  refine s1 p104.z (okAs s117) rfl fun a118 p119 s120 => ?_
  refine rN (thenN ?_)
  refine wp_seq ?_
  refine reg ?_
  have s121 := p119.o (p104.o (p99.o (p95.o (p92.o (p84.o (p77.o (p69.o (p63.o s61 rfl) rfl) rfl) rfl) rfl) rfl) rfl) rfl) rfl
  refine s1 p119.z (okMv s121) rfl fun a122 p123 s124 => ?_
  refine s1 p123.z (okMv s124) rfl fun a125 p126 s127 => ?_
  refine cutP 4 (fun a' => Pg Try.f5.ntmps [21, 22, 23, 24] a125 a' ∧ a'.eval (.tmp 24) = .bool (t22.2 && (t22.1.owner == 3))) ?_ ?_
  · rcases bf t22.2 with hb128 | hb128
    · have s129 := bv s127 hb128
      refine s1k p126.z rfl (yd p126.z rfl rfl s129) rfl fun a130 p131 s132 => ?_
      have s133 := p131.o s129 rfl
      refine s1k p131.z rfl (yd p131.z rfl rfl s133) rfl fun a134 p135 s136 => ?_
      have s137 := p135.o s133 rfl
      refine s1k p135.z rfl (yd p135.z rfl rfl s137) rfl fun a138 p139 s140 => ?_
      have s141 := p139.o s137 rfl
      refine s1 p139.z (okPickF s141 cst) rfl fun a142 p143 s144 => ?_
      exact rN ⟨rfl, rfl, (((((Pg.refl p126.z).st p131 rfl).st p135 rfl).st p139 rfl).st p143 rfl), (andF hb128 s144)⟩
    · have s145 := bv s127 hb128
      have s146 := p126.o (p123.o (p119.o (p104.o (p99.o (p95.o (p92.o (p84.o (p77.o (p69.o (p63.o (p60.o sp46 rfl) rfl) rfl) rfl) rfl) rfl) rfl) rfl) rfl) rfl) rfl) rfl
      refine s1g p126.z (okFA (o' := 2) fo25_2 s146 rfl) rfl (yd p126.z rfl rfl s145) fun a147 p148 s149 => ?_
      have s150 := p148.o s145 rfl
      have m151 := (m108.g0 g106).g1 g115 (m108.ne e107)
      refine s1g p148.z (okLd (j := 2) na3 s149 (m151.cl) rfl rfl) rfl (yd p148.z rfl rfl s150) fun a152 p153 s154 => ?_
      have s155 := p153.o s150 rfl
      refine s1g p153.z (okEq s154 cst) rfl (yd p153.z rfl rfl s155) fun a156 p157 s158 => ?_
      have s159 := p157.o s155 rfl
      refine s1 p157.z (okPickT s159 s158) rfl fun a160 p161 s162 => ?_
      exact rN ⟨rfl, rfl, (((((Pg.refl p126.z).st p148 rfl).st p153 rfl).st p157 rfl).st p161 rfl), (andT hb128 s162)⟩
  rintro a163 ⟨pg164, s165⟩
  refine s1 pg164.z (okMv s165) rfl fun a166 p167 s168 => ?_
  refine cutP 4 (fun a' => Pg Try.f5.ntmps [26, 27, 28, 29] a166 a' ∧ a'.eval (.tmp 29) = .bool ((t22.2 && (t22.1.owner == 3)) && (t22.1.holds == 1))) ?_ ?_
  · rcases bf (t22.2 && (t22.1.owner == 3)) with hb169 | hb169
    · have s170 := bv s168 hb169
      refine s1k p167.z rfl (yd p167.z rfl rfl s170) rfl fun a171 p172 s173 => ?_
      have s174 := p172.o s170 rfl
      refine s1k p172.z rfl (yd p172.z rfl rfl s174) rfl fun a175 p176 s177 => ?_
      have s178 := p176.o s174 rfl
      refine s1k p176.z rfl (yd p176.z rfl rfl s178) rfl fun a179 p180 s181 => ?_
      have s182 := p180.o s178 rfl
      refine s1 p180.z (okPickF s182 cst) rfl fun a183 p184 s185 => ?_
      exact rN ⟨rfl, rfl, (((((Pg.refl p167.z).st p172 rfl).st p176 rfl).st p180 rfl).st p184 rfl), (andF hb169 s185)⟩
    · have s186 := bv s168 hb169
      have s187 := p167.o (pg164.o (p126.o (p123.o (p119.o (p104.o (p99.o (p95.o (p92.o (p84.o (p77.o (p69.o (p63.o (p60.o sp46 rfl) rfl) rfl) rfl) rfl) rfl) rfl) rfl) rfl) rfl) rfl) rfl) rfl) rfl
      refine s1g p167.z (okFA (o' := 3) fo25_3 s187 rfl) rfl (yd p167.z rfl rfl s186) fun a188 p189 s190 => ?_
      have s191 := p189.o s186 rfl
      have m192 := (m108.g0 g106).g1 g115 (m108.ne e107)
      refine s1g p189.z (okLd (j := 3) na3 s190 (m192.cl) rfl rfl) rfl (yd p189.z rfl rfl s191) fun a193 p194 s195 => ?_
      have s196 := p194.o s191 rfl
      refine s1g p194.z (okEq s195 cst) rfl (yd p194.z rfl rfl s196) fun a197 p198 s199 => ?_
      have s200 := p198.o s196 rfl
      refine s1 p198.z (okPickT s200 s199) rfl fun a201 p202 s203 => ?_
      exact rN ⟨rfl, rfl, (((((Pg.refl p167.z).st p189 rfl).st p194 rfl).st p198 rfl).st p202 rfl), (andT hb169 s203)⟩
  rintro a204 ⟨pg205, s206⟩
  refine s1 pg205.z (okMv s206) rfl fun a207 p208 s209 => ?_
  refine cutP 3 (fun a' => Pg Try.f5.ntmps [31, 32, 33] a207 a' ∧ a'.eval (.tmp 33) = .bool (((t22.2 && (t22.1.owner == 3)) && (t22.1.holds == 1)) && (!t80.2))) ?_ ?_
  · rcases bf ((t22.2 && (t22.1.owner == 3)) && (t22.1.holds == 1)) with hb210 | hb210
    · have s211 := bv s209 hb210
      refine s1k p208.z rfl (yd p208.z rfl rfl s211) rfl fun a212 p213 s214 => ?_
      have s215 := p213.o s211 rfl
      refine s1k p213.z rfl (yd p213.z rfl rfl s215) rfl fun a216 p217 s218 => ?_
      have s219 := p217.o s215 rfl
      refine s1 p217.z (okPickF s219 cst) rfl fun a220 p221 s222 => ?_
      exact rN ⟨rfl, rfl, ((((Pg.refl p208.z).st p213 rfl).st p217 rfl).st p221 rfl), (andF hb210 s222)⟩
    · have s223 := bv s209 hb210
      have s224 := p208.o (pg205.o (p167.o (pg164.o (p126.o (p123.o s120 rfl) rfl) rfl) rfl) rfl) rfl
      refine s1g p208.z (okMv s224) rfl (yd p208.z rfl rfl s223) fun a225 p226 s227 => ?_
      have s228 := p226.o s223 rfl
      refine s1g p226.z (okNot s227) rfl (yd p226.z rfl rfl s228) fun a229 p230 s231 => ?_
      have s232 := p230.o s228 rfl
      refine s1 p230.z (okPickT s232 s231) rfl fun a233 p234 s235 => ?_
      exact rN ⟨rfl, rfl, ((((Pg.refl p208.z).st p226 rfl).st p230 rfl).st p234 rfl), (andT hb210 s235)⟩
  rintro a236 ⟨pg237, s238⟩
  refine s1 pg237.z (okAs s238) rfl fun a239 p240 s241 => ?_
  refine rN (thenN ?_)
  obtain rfl := Option.some.inj h
  exact wp_ret (ret1 p240.z Try.results5 (rvT s241) ⟨_, rfl, rfl, cx116.g⟩)

set_option maxHeartbeats 4000000 in
theorem c6 (k : Nat) (L : List Nat) (w : World) (hL : ∀ b ∈ L, b < w.heap.size) (x0 : TThing) (h0_0 : Value) (qh0_0 : RdS KTWaiter L w h0_0 x0.waiters) (r : Bool) (h : tholelaw10_light k x0 = some r) : Calls Try.prog 6 #[.agg (TThing.C x0 h0_0).toArray] w (fun e w' => ∃ v, e = .returned v ∧ v = .bool r ∧ G [] w w') := by
  refine enterF Try.func6 rfl rfl fun a0 z0 A => ?_
  have s0_0 := A 0 (.agg (TThing.C x0 h0_0).toArray) rfl
  clear A
  have c0 : Cx [] w L w := ⟨G.refl _ _, hL⟩
  unfold tholelaw10_light at h
  refine wp_seq ?_
  refine reg ?_
  refine lS (oBox (l := TThing.C x0 h0_0) z0 s0_0 rfl rfl fun a1 w2 b3 p4 sp4 m5 g6 e7 => ?_)
  have f9 := c0.nw e7
  have cx8 := c0.al g6 m5
  refine s1 p4.z (okAs cst) rfl fun a10 p11 s12 => ?_
  refine rN (thenN ?_)
  refine wp_seq ?_
  refine reg ?_
  have s13 := p11.o sp4 rfl
  refine s1 p11.z (okFA (o' := 1) fo25_1 s13 rfl) rfl fun a14 p15 s16 => ?_
  refine s1 p15.z (okLd (j := 1) na3 s16 (m5.cl) rfl rfl) rfl fun a17 p18 s19 => ?_
  refine s1 p18.z (okGe s19 cst) rfl fun a20 p21 s22 => ?_
  refine s1 p21.z (okMv s22) rfl fun a23 p24 s25 => ?_
  refine cutP 4 (fun a' => Pg Try.f6.ntmps [9, 10, 11, 12] a23 a' ∧ a'.eval (.tmp 12) = .bool ((decide ((-1000000) ≤ x0.n)) && (decide (x0.n ≤ 1000000)))) ?_ ?_
  · rcases bf (decide ((-1000000) ≤ x0.n)) with hb26 | hb26
    · have s27 := bv s25 hb26
      refine s1k p24.z rfl (yd p24.z rfl rfl s27) rfl fun a28 p29 s30 => ?_
      have s31 := p29.o s27 rfl
      refine s1k p29.z rfl (yd p29.z rfl rfl s31) rfl fun a32 p33 s34 => ?_
      have s35 := p33.o s31 rfl
      refine s1k p33.z rfl (yd p33.z rfl rfl s35) rfl fun a36 p37 s38 => ?_
      have s39 := p37.o s35 rfl
      refine s1 p37.z (okPickF s39 cst) rfl fun a40 p41 s42 => ?_
      exact rN ⟨rfl, rfl, (((((Pg.refl p24.z).st p29 rfl).st p33 rfl).st p37 rfl).st p41 rfl), (andF hb26 s42)⟩
    · have s43 := bv s25 hb26
      have s44 := p24.o (p21.o (p18.o (p15.o s13 rfl) rfl) rfl) rfl
      refine s1g p24.z (okFA (o' := 1) fo25_1 s44 rfl) rfl (yd p24.z rfl rfl s43) fun a45 p46 s47 => ?_
      have s48 := p46.o s43 rfl
      refine s1g p46.z (okLd (j := 1) na3 s47 (m5.cl) rfl rfl) rfl (yd p46.z rfl rfl s48) fun a49 p50 s51 => ?_
      have s52 := p50.o s48 rfl
      refine s1g p50.z (okLe s51 cst) rfl (yd p50.z rfl rfl s52) fun a53 p54 s55 => ?_
      have s56 := p54.o s52 rfl
      refine s1 p54.z (okPickT s56 s55) rfl fun a57 p58 s59 => ?_
      exact rN ⟨rfl, rfl, (((((Pg.refl p24.z).st p46 rfl).st p50 rfl).st p54 rfl).st p58 rfl), (andT hb26 s59)⟩
  rintro a60 ⟨pg61, s62⟩
  refine s1 pg61.z (okMv s62) rfl fun a63 p64 s65 => ?_
  refine cutP 4 (fun a' => Pg Try.f6.ntmps [14, 15, 16, 17] a63 a' ∧ a'.eval (.tmp 17) = .bool (((decide ((-1000000) ≤ x0.n)) && (decide (x0.n ≤ 1000000))) && (decide ((-1000000) ≤ x0.holds)))) ?_ ?_
  · rcases bf ((decide ((-1000000) ≤ x0.n)) && (decide (x0.n ≤ 1000000))) with hb66 | hb66
    · have s67 := bv s65 hb66
      refine s1k p64.z rfl (yd p64.z rfl rfl s67) rfl fun a68 p69 s70 => ?_
      have s71 := p69.o s67 rfl
      refine s1k p69.z rfl (yd p69.z rfl rfl s71) rfl fun a72 p73 s74 => ?_
      have s75 := p73.o s71 rfl
      refine s1k p73.z rfl (yd p73.z rfl rfl s75) rfl fun a76 p77 s78 => ?_
      have s79 := p77.o s75 rfl
      refine s1 p77.z (okPickF s79 cst) rfl fun a80 p81 s82 => ?_
      exact rN ⟨rfl, rfl, (((((Pg.refl p64.z).st p69 rfl).st p73 rfl).st p77 rfl).st p81 rfl), (andF hb66 s82)⟩
    · have s83 := bv s65 hb66
      have s84 := p64.o (pg61.o (p24.o (p21.o (p18.o (p15.o s13 rfl) rfl) rfl) rfl) rfl) rfl
      refine s1g p64.z (okFA (o' := 3) fo25_3 s84 rfl) rfl (yd p64.z rfl rfl s83) fun a85 p86 s87 => ?_
      have s88 := p86.o s83 rfl
      refine s1g p86.z (okLd (j := 3) na3 s87 (m5.cl) rfl rfl) rfl (yd p86.z rfl rfl s88) fun a89 p90 s91 => ?_
      have s92 := p90.o s88 rfl
      refine s1g p90.z (okGe s91 cst) rfl (yd p90.z rfl rfl s92) fun a93 p94 s95 => ?_
      have s96 := p94.o s92 rfl
      refine s1 p94.z (okPickT s96 s95) rfl fun a97 p98 s99 => ?_
      exact rN ⟨rfl, rfl, (((((Pg.refl p64.z).st p86 rfl).st p90 rfl).st p94 rfl).st p98 rfl), (andT hb66 s99)⟩
  rintro a100 ⟨pg101, s102⟩
  refine s1 pg101.z (okMv s102) rfl fun a103 p104 s105 => ?_
  refine cutP 4 (fun a' => Pg Try.f6.ntmps [19, 20, 21, 22] a103 a' ∧ a'.eval (.tmp 22) = .bool ((((decide ((-1000000) ≤ x0.n)) && (decide (x0.n ≤ 1000000))) && (decide ((-1000000) ≤ x0.holds))) && (decide (x0.holds ≤ 1000000)))) ?_ ?_
  · rcases bf (((decide ((-1000000) ≤ x0.n)) && (decide (x0.n ≤ 1000000))) && (decide ((-1000000) ≤ x0.holds))) with hb106 | hb106
    · have s107 := bv s105 hb106
      refine s1k p104.z rfl (yd p104.z rfl rfl s107) rfl fun a108 p109 s110 => ?_
      have s111 := p109.o s107 rfl
      refine s1k p109.z rfl (yd p109.z rfl rfl s111) rfl fun a112 p113 s114 => ?_
      have s115 := p113.o s111 rfl
      refine s1k p113.z rfl (yd p113.z rfl rfl s115) rfl fun a116 p117 s118 => ?_
      have s119 := p117.o s115 rfl
      refine s1 p117.z (okPickF s119 cst) rfl fun a120 p121 s122 => ?_
      exact rN ⟨rfl, rfl, (((((Pg.refl p104.z).st p109 rfl).st p113 rfl).st p117 rfl).st p121 rfl), (andF hb106 s122)⟩
    · have s123 := bv s105 hb106
      have s124 := p104.o (pg101.o (p64.o (pg61.o (p24.o (p21.o (p18.o (p15.o s13 rfl) rfl) rfl) rfl) rfl) rfl) rfl) rfl
      refine s1g p104.z (okFA (o' := 3) fo25_3 s124 rfl) rfl (yd p104.z rfl rfl s123) fun a125 p126 s127 => ?_
      have s128 := p126.o s123 rfl
      refine s1g p126.z (okLd (j := 3) na3 s127 (m5.cl) rfl rfl) rfl (yd p126.z rfl rfl s128) fun a129 p130 s131 => ?_
      have s132 := p130.o s128 rfl
      refine s1g p130.z (okLe s131 cst) rfl (yd p130.z rfl rfl s132) fun a133 p134 s135 => ?_
      have s136 := p134.o s132 rfl
      refine s1 p134.z (okPickT s136 s135) rfl fun a137 p138 s139 => ?_
      exact rN ⟨rfl, rfl, (((((Pg.refl p104.z).st p126 rfl).st p130 rfl).st p134 rfl).st p138 rfl), (andT hb106 s139)⟩
  rintro a140 ⟨pg141, s142⟩
  refine s1 pg141.z (okMv s142) rfl fun a143 p144 s145 => ?_
  refine cutP 5 (fun a' => Pg Try.f6.ntmps [24, 25, 26, 27, 28] a143 a' ∧ a'.eval (.tmp 28) = .bool (((((decide ((-1000000) ≤ x0.n)) && (decide (x0.n ≤ 1000000))) && (decide ((-1000000) ≤ x0.holds))) && (decide (x0.holds ≤ 1000000))) && (decide ((x0.waiters.length : Int) ≤ 100)))) ?_ ?_
  · rcases bf ((((decide ((-1000000) ≤ x0.n)) && (decide (x0.n ≤ 1000000))) && (decide ((-1000000) ≤ x0.holds))) && (decide (x0.holds ≤ 1000000))) with hb146 | hb146
    · have s147 := bv s145 hb146
      refine s1k p144.z rfl (yd p144.z rfl rfl s147) rfl fun a148 p149 s150 => ?_
      have s151 := p149.o s147 rfl
      refine s1k p149.z rfl (yd p149.z rfl rfl s151) rfl fun a152 p153 s154 => ?_
      have s155 := p153.o s151 rfl
      refine s1k p153.z rfl (yd p153.z rfl rfl s155) rfl fun a156 p157 s158 => ?_
      have s159 := p157.o s155 rfl
      refine s1k p157.z rfl (yd p157.z rfl rfl s159) rfl fun a160 p161 s162 => ?_
      have s163 := p161.o s159 rfl
      refine s1 p161.z (okPickF s163 cst) rfl fun a164 p165 s166 => ?_
      exact rN ⟨rfl, rfl, ((((((Pg.refl p144.z).st p149 rfl).st p153 rfl).st p157 rfl).st p161 rfl).st p165 rfl), (andF hb146 s166)⟩
    · have s167 := bv s145 hb146
      have s168 := p144.o (pg141.o (p104.o (pg101.o (p64.o (pg61.o (p24.o (p21.o (p18.o (p15.o s13 rfl) rfl) rfl) rfl) rfl) rfl) rfl) rfl) rfl) rfl
      refine s1g p144.z (okFA (o' := 12) fo25_5 s168 rfl) rfl (yd p144.z rfl rfl s167) fun a169 p170 s171 => ?_
      have s172 := p170.o s167 rfl
      refine s1g p170.z (okLd (j := 12) na23 s171 (m5.cl) rfl rfl) rfl (yd p170.z rfl rfl s172) fun a173 p174 s175 => ?_
      have s176 := p174.o s172 rfl
      have q177 := qh0_0.mono (g6.tA (Nat.le_of_eq e7.symm))
      refine s1g p174.z (okLenR Try.underlying23 s175 q177) rfl (yd p174.z rfl rfl s176) fun a178 p179 s180 => ?_
      have s181 := p179.o s176 rfl
      refine s1g p179.z (okLe s180 cst) rfl (yd p179.z rfl rfl s181) fun a182 p183 s184 => ?_
      have s185 := p183.o s181 rfl
      refine s1 p183.z (okPickT s185 s184) rfl fun a186 p187 s188 => ?_
      exact rN ⟨rfl, rfl, ((((((Pg.refl p144.z).st p170 rfl).st p174 rfl).st p179 rfl).st p183 rfl).st p187 rfl), (andT hb146 s188)⟩
  rintro a189 ⟨pg190, s191⟩
  refine s1 pg190.z (okAs s191) rfl fun a192 p193 s194 => ?_
  refine rN (thenN ?_)
  refine wp_seq ?_
  refine wp_seq ?_
  refine reg ?_
  refine s1 p193.z (okAs cst) rfl fun a195 p196 s197 => ?_
  refine rN (thenN ?_)
  refine wp_block ?_
  obtain ⟨o200, ho201, h⟩ := Option.bind_eq_some_iff.1 h
  have s202 := p196.o (p193.o (pg190.o (p144.o (pg141.o (p104.o (pg101.o (p64.o (pg61.o (p24.o (p21.o (p18.o (p15.o s13 rfl) rfl) rfl) rfl) rfl) rfl) rfl) rfl) rfl) rfl) rfl) rfl) rfl
  have s203 := p196.o (p193.o (pg190.o (p144.o (pg141.o (p104.o (pg101.o (p64.o (pg61.o (p24.o (p21.o (p18.o (p15.o s12 rfl) rfl) rfl) rfl) rfl) rfl) rfl) rfl) rfl) rfl) rfl) rfl) rfl
  have s204 := p196.o s194 rfl
  have q205 := qh0_0.mono (g6.tA (Nat.le_of_eq e7.symm))
  refine loopX (I := (fun k' a' w' => ∃ i198 i199, Z Try.f6.ntmps a' ∧ a'.eval (.tmp 1) = ptr b3 0 ∧ a'.eval (.tmp 2) = .bool false ∧ a'.eval (.tmp 3) = .bool i198 ∧ a'.eval (.tmp 4) = .int .i64 i199 ∧ Bk w' b3 (TThing.C x0 h0_0) 25 ∧ RdS KTWaiter (b3 :: L) w' h0_0 x0.waiters ∧ Cx [] w (b3 :: L) w' ∧ tholelaw10_light.l0 x0 k' i198 i199 = some o200)) 0 (fun a' w' => Z Try.f6.ntmps a' ∧ a'.eval (.tmp 2) = .bool false ∧ a'.eval (.tmp 3) = .bool o200 ∧ Bk w' b3 (TThing.C x0 h0_0) 25 ∧ RdS KTWaiter (b3 :: L) w' h0_0 x0.waiters ∧ Cx [] w (b3 :: L) w') ⟨(((((decide ((-1000000) ≤ x0.n)) && (decide (x0.n ≤ 1000000))) && (decide ((-1000000) ≤ x0.holds))) && (decide (x0.holds ≤ 1000000))) && (decide ((x0.waiters.length : Int) ≤ 100))), 0, p196.z, s202, s203, s204, s197, m5, q205, cx8, ho201⟩ ?_ ?_
  · have oh217 := h; clear h ho201
    rintro k206 a207 w208 ⟨i198, i199, z209, s210, s211, s212, s213, m214, q215, cx216, h⟩
    obtain _ | k := k206
    case zero => cases h
    rw [tholelaw10_light.l0] at h
    refine wp_seq ?_
    refine wp_seq ?_
    refine reg ?_
    refine s1 z209 (okMv s213) rfl fun a218 p219 s220 => ?_
    refine s1 p219.z (okLt s220 cst) rfl fun a221 p222 s223 => ?_
    refine rN (thenN ?_)
    refine cnd s223 (fun hb224 => ?_) (fun hb224 => ?_)
    · replace h := (ifP hb224).symm.trans h
      refine wp_skip (thenN ?_)
      refine wp_seq ?_
      refine wp_block ?_
      refine reg ?_
      have s225 := p222.o (p219.o s212 rfl) rfl
      refine s1 p222.z (okMv s225) rfl fun a226 p227 s228 => ?_
      refine s1 p227.z (okMv s228) rfl fun a229 p230 s231 => ?_
      obtain ⟨b232, hb233, h⟩ := Option.bind_eq_some_iff.1 h
      refine cutP 6 (fun a' => Pg Try.f6.ntmps [35, 36, 37, 38, 39, 40] a229 a' ∧ a'.eval (.tmp 40) = .bool b232) ?_ ?_
      · rcases bf i198 with hb234 | hb234
        · have s235 := bv s231 hb234
          replace hb233 := (ifN hb234).symm.trans hb233
          clear h; have h := hb233; clear hb233
          refine s1k p230.z rfl (yd p230.z rfl rfl s235) rfl fun a236 p237 s238 => ?_
          have s239 := p237.o s235 rfl
          refine s1k p237.z rfl (yd p237.z rfl rfl s239) rfl fun a240 p241 s242 => ?_
          have s243 := p241.o s239 rfl
          refine s1k p241.z rfl (yd p241.z rfl rfl s243) rfl fun a244 p245 s246 => ?_
          have s247 := p245.o s243 rfl
          refine s1k p245.z rfl (yd p245.z rfl rfl s247) rfl fun a248 p249 s250 => ?_
          have s251 := p249.o s247 rfl
          refine s1k p249.z rfl (yd p249.z rfl rfl s251) rfl fun a252 p253 s254 => ?_
          have s255 := p253.o s251 rfl
          refine s1 p253.z (okPickF s255 cst) rfl fun a256 p257 s258 => ?_
          obtain rfl := Option.some.inj h
          exact rN ⟨rfl, rfl, (((((((Pg.refl p230.z).st p237 rfl).st p241 rfl).st p245 rfl).st p249 rfl).st p253 rfl).st p257 rfl), s258⟩
        · have s259 := bv s231 hb234
          replace hb233 := (ifP hb234).symm.trans hb233
          clear h; have h := hb233; clear hb233
          have s260 := p230.o (p227.o (p222.o (p219.o s213 rfl) rfl) rfl) rfl
          refine s1g p230.z (okMv s260) rfl (yd p230.z rfl rfl s259) fun a261 p262 s263 => ?_
          have s264 := p262.o s259 rfl
          have s265 := p262.o (p230.o (p227.o (p222.o (p219.o s210 rfl) rfl) rfl) rfl) rfl
          refine s1g p262.z (okFA (o' := 4) fo25_4 s265 rfl) rfl (yd p262.z rfl rfl s264) fun a266 p267 s268 => ?_
          have s269 := p267.o s264 rfl
          have s270 := p267.o s263 rfl
          by_cases hi271 : 0 ≤ i199 ∧ i199 < 8
          case neg => rw [if_neg hi271] at h; cases h
          replace h := (if_pos hi271).symm.trans h
          refine s1g p267.z (okIA Try.underlying22 Try.sizeOf3 s268 s270 hi271) rfl (yd p267.z rfl rfl s269) fun a272 p273 s274 => ?_
          have s275 := p273.o s269 rfl
          refine s1g p273.z (okLd (j := 4 + i199.toNat) na3 s274 (m214.cl) (Nat.zero_add _) (TThing.C_reads_get _ _ hi271)) rfl (yd p273.z rfl rfl s275) fun a276 p277 s278 => ?_
          have s279 := p277.o s275 rfl
          refine s1g p277.z (okGe s278 cst) rfl (yd p277.z rfl rfl s279) fun a280 p281 s282 => ?_
          have s283 := p281.o s279 rfl
          refine s1 p281.z (okPickT s283 s282) rfl fun a284 p285 s286 => ?_
          obtain rfl := Option.some.inj h
          exact rN ⟨rfl, rfl, (((((((Pg.refl p230.z).st p262 rfl).st p267 rfl).st p273 rfl).st p277 rfl).st p281 rfl).st p285 rfl), s286⟩
      rintro a287 ⟨pg288, s289⟩
      refine s1 pg288.z (okMv s289) rfl fun a290 p291 s292 => ?_
      obtain ⟨b293, hb294, h⟩ := Option.bind_eq_some_iff.1 h
      refine cutP 6 (fun a' => Pg Try.f6.ntmps [42, 43, 44, 45, 46, 47] a290 a' ∧ a'.eval (.tmp 47) = .bool b293) ?_ ?_
      · rcases bf b232 with hb295 | hb295
        · have s296 := bv s292 hb295
          replace hb294 := (ifN hb295).symm.trans hb294
          clear h; have h := hb294; clear hb294
          refine s1k p291.z rfl (yd p291.z rfl rfl s296) rfl fun a297 p298 s299 => ?_
          have s300 := p298.o s296 rfl
          refine s1k p298.z rfl (yd p298.z rfl rfl s300) rfl fun a301 p302 s303 => ?_
          have s304 := p302.o s300 rfl
          refine s1k p302.z rfl (yd p302.z rfl rfl s304) rfl fun a305 p306 s307 => ?_
          have s308 := p306.o s304 rfl
          refine s1k p306.z rfl (yd p306.z rfl rfl s308) rfl fun a309 p310 s311 => ?_
          have s312 := p310.o s308 rfl
          refine s1k p310.z rfl (yd p310.z rfl rfl s312) rfl fun a313 p314 s315 => ?_
          have s316 := p314.o s312 rfl
          refine s1 p314.z (okPickF s316 cst) rfl fun a317 p318 s319 => ?_
          obtain rfl := Option.some.inj h
          exact rN ⟨rfl, rfl, (((((((Pg.refl p291.z).st p298 rfl).st p302 rfl).st p306 rfl).st p310 rfl).st p314 rfl).st p318 rfl), s319⟩
        · have s320 := bv s292 hb295
          replace hb294 := (ifP hb295).symm.trans hb294
          clear h; have h := hb294; clear hb294
          have s321 := p291.o (pg288.o (p230.o (p227.o (p222.o (p219.o s213 rfl) rfl) rfl) rfl) rfl) rfl
          refine s1g p291.z (okMv s321) rfl (yd p291.z rfl rfl s320) fun a322 p323 s324 => ?_
          have s325 := p323.o s320 rfl
          have s326 := p323.o (p291.o (pg288.o (p230.o (p227.o (p222.o (p219.o s210 rfl) rfl) rfl) rfl) rfl) rfl) rfl
          refine s1g p323.z (okFA (o' := 4) fo25_4 s326 rfl) rfl (yd p323.z rfl rfl s325) fun a327 p328 s329 => ?_
          have s330 := p328.o s325 rfl
          have s331 := p328.o s324 rfl
          by_cases hi332 : 0 ≤ i199 ∧ i199 < 8
          case neg => rw [if_neg hi332] at h; cases h
          replace h := (if_pos hi332).symm.trans h
          refine s1g p328.z (okIA Try.underlying22 Try.sizeOf3 s329 s331 hi332) rfl (yd p328.z rfl rfl s330) fun a333 p334 s335 => ?_
          have s336 := p334.o s330 rfl
          refine s1g p334.z (okLd (j := 4 + i199.toNat) na3 s335 (m214.cl) (Nat.zero_add _) (TThing.C_reads_get _ _ hi332)) rfl (yd p334.z rfl rfl s336) fun a337 p338 s339 => ?_
          have s340 := p338.o s336 rfl
          refine s1g p338.z (okLe s339 cst) rfl (yd p338.z rfl rfl s340) fun a341 p342 s343 => ?_
          have s344 := p342.o s340 rfl
          refine s1 p342.z (okPickT s344 s343) rfl fun a345 p346 s347 => ?_
          obtain rfl := Option.some.inj h
          exact rN ⟨rfl, rfl, (((((((Pg.refl p291.z).st p323 rfl).st p328 rfl).st p334 rfl).st p338 rfl).st p342 rfl).st p346 rfl), s347⟩
      rintro a348 ⟨pg349, s350⟩
      refine s1 pg349.z (okAs s350) rfl fun a351 p352 s353 => ?_
      refine rN (blkN (thenN ?_))
      refine reg ?_
      have s354 := p352.o (pg349.o (p291.o (pg288.o (p230.o (p227.o (p222.o (p219.o s213 rfl) rfl) rfl) rfl) rfl) rfl) rfl) rfl
      refine s1 p352.z (okMv s354) rfl fun a355 p356 s357 => ?_
      refine s1 p356.z (okAdd s357 cst) rfl fun a358 p359 s360 => ?_
      refine s1 p359.z (okAs s360) rfl fun a361 p362 s363 => ?_
      have s364 := p362.o (p359.o (p356.o (p352.o (pg349.o (p291.o (pg288.o (p230.o (p227.o (p222.o (p219.o s210 rfl) rfl) rfl) rfl) rfl) rfl) rfl) rfl) rfl) rfl) rfl
      have s365 := p362.o (p359.o (p356.o (p352.o (pg349.o (p291.o (pg288.o (p230.o (p227.o (p222.o (p219.o s211 rfl) rfl) rfl) rfl) rfl) rfl) rfl) rfl) rfl) rfl) rfl
      have s366 := p362.o (p359.o (p356.o s353 rfl) rfl) rfl
      exact rN (thenN ⟨k, Nat.lt_succ_self k, b293, (w64 (i199 + 1)), p362.z, s364, s365, s366, s363, m214, q215, cx216, h⟩)
    replace h := (ifN hb224).symm.trans h
    obtain rfl := Option.some.inj h
    have s367 := p222.o (p219.o s211 rfl) rfl
    have s368 := p222.o (p219.o s212 rfl) rfl
    exact wp_exit (thenE (thenE (jqE ⟨p222.z, s367, s368, m214, q215, cx216⟩)))
  clear ho201
  rintro a369 w370 ⟨z371, s372, s373, m374, q375, cx376⟩
  refine blkE (thenN ?_)
  refine wp_seq ?_
  refine reg ?_
  refine s1 z371 (okMv s373) rfl fun a377 p378 s379 => ?_
  refine s1 p378.z (okAs s379) rfl fun a380 p381 s382 => ?_
  refine rN (thenN ?_)
  obtain rfl := Option.some.inj h
  exact wp_ret (ret1 p381.z Try.results6 (rvT s382) ⟨_, rfl, rfl, cx376.g⟩)

set_option maxHeartbeats 4000000 in
theorem c8 (k : Nat) (L : List Nat) (w : World) (hL : ∀ b ∈ L, b < w.heap.size) (x0 : TThing) (h0_0 : Value) (qh0_0 : RdS KTWaiter L w h0_0 x0.waiters) (x1 : TThing) (h1_0 : Value) (qh1_0 : RdS KTWaiter L w h1_0 x1.waiters) (r : Bool) (h : tholeref10_Same k x0 x1 = some r) : Calls Try.prog 8 #[.agg (TThing.C x0 h0_0).toArray, .agg (TThing.C x1 h1_0).toArray] w (fun e w' => ∃ v, e = .returned v ∧ v = .bool r ∧ G [] w w') := by
  refine enterF Try.func8 rfl rfl fun a0 z0 A => ?_
  have s0_0 := A 0 (.agg (TThing.C x0 h0_0).toArray) rfl
  have s0_1 := A 1 (.agg (TThing.C x1 h1_0).toArray) rfl
  clear A
  have c0 : Cx [] w L w := ⟨G.refl _ _, hL⟩
  unfold tholeref10_Same at h
  refine wp_seq ?_
  refine reg ?_
  refine lS (oBox (l := TThing.C x0 h0_0) z0 s0_0 rfl rfl fun a1 w2 b3 p4 sp4 m5 g6 e7 => ?_)
  have f9 := c0.nw e7
  have cx8 := c0.al g6 m5
  have s10 := p4.o s0_1 rfl
  refine lS (oBox (l := TThing.C x1 h1_0) p4.z s10 rfl rfl fun a11 w12 b13 p14 sp14 m15 g16 e17 => ?_)
  have f19 := cx8.nw e17
  have cx18 := cx8.al g16 m15
  refine s1 p14.z (okAs cst) rfl fun a20 p21 s22 => ?_
  refine rN (thenN ?_)
  refine wp_seq ?_
  refine wp_seq ?_
  refine reg ?_
  have s23 := p21.o (p14.o sp4 rfl) rfl
  refine s1 p21.z (okFA (o' := 0) fo25_0 s23 rfl) rfl fun a24 p25 s26 => ?_
  have m27 := m5.g0 g16
  refine s1 p25.z (okLd (j := 0) na3 s26 (m27.cl) rfl rfl) rfl fun a28 p29 s30 => ?_
  have s31 := p29.o (p25.o (p21.o sp14 rfl) rfl) rfl
  refine s1 p29.z (okFA (o' := 0) fo25_0 s31 rfl) rfl fun a32 p33 s34 => ?_
  refine s1 p33.z (okLd (j := 0) na3 s34 (m15.cl) rfl rfl) rfl fun a35 p36 s37 => ?_
  have s38 := p36.o (p33.o s30 rfl) rfl
  refine s1 p36.z (okNe s38 s37) rfl fun a39 p40 s41 => ?_
  refine s1 p40.z (okMv s41) rfl fun a42 p43 s44 => ?_
  refine cutP 6 (fun a' => Pg Try.f8.ntmps [12, 13, 14, 15, 16, 17] a42 a' ∧ a'.eval (.tmp 17) = .bool ((x0.kind != x1.kind) || (x0.n != x1.n))) ?_ ?_
  · rcases bf (x0.kind != x1.kind) with hb45 | hb45
    · have s46 := bv s44 hb45
      have s47 := p43.o (p40.o (p36.o (p33.o (p29.o (p25.o s23 rfl) rfl) rfl) rfl) rfl) rfl
      refine s1g p43.z (okFA (o' := 1) fo25_1 s47 rfl) rfl (yd p43.z rfl rfl s46) fun a48 p49 s50 => ?_
      have s51 := p49.o s46 rfl
      refine s1g p49.z (okLd (j := 1) na3 s50 (m27.cl) rfl rfl) rfl (yd p49.z rfl rfl s51) fun a52 p53 s54 => ?_
      have s55 := p53.o s51 rfl
      have s56 := p53.o (p49.o (p43.o (p40.o (p36.o (p33.o s31 rfl) rfl) rfl) rfl) rfl) rfl
      refine s1g p53.z (okFA (o' := 1) fo25_1 s56 rfl) rfl (yd p53.z rfl rfl s55) fun a57 p58 s59 => ?_
      have s60 := p58.o s55 rfl
      refine s1g p58.z (okLd (j := 1) na3 s59 (m15.cl) rfl rfl) rfl (yd p58.z rfl rfl s60) fun a61 p62 s63 => ?_
      have s64 := p62.o s60 rfl
      have s65 := p62.o (p58.o s54 rfl) rfl
      refine s1g p62.z (okNe s65 s63) rfl (yd p62.z rfl rfl s64) fun a66 p67 s68 => ?_
      have s69 := p67.o s64 rfl
      refine s1 p67.z (okPickF s69 s68) rfl fun a70 p71 s72 => ?_
      exact rN ⟨rfl, rfl, (((((((Pg.refl p43.z).st p49 rfl).st p53 rfl).st p58 rfl).st p62 rfl).st p67 rfl).st p71 rfl), (orF hb45 s72)⟩
    · have s73 := bv s44 hb45
      refine s1k p43.z rfl (yd p43.z rfl rfl s73) rfl fun a74 p75 s76 => ?_
      have s77 := p75.o s73 rfl
      refine s1k p75.z rfl (yd p75.z rfl rfl s77) rfl fun a78 p79 s80 => ?_
      have s81 := p79.o s77 rfl
      refine s1k p79.z rfl (yd p79.z rfl rfl s81) rfl fun a82 p83 s84 => ?_
      have s85 := p83.o s81 rfl
      refine s1k p83.z rfl (yd p83.z rfl rfl s85) rfl fun a86 p87 s88 => ?_
      have s89 := p87.o s85 rfl
      refine s1k p87.z rfl (yd p87.z rfl rfl s89) rfl fun a90 p91 s92 => ?_
      have s93 := p91.o s89 rfl
      refine s1 p91.z (okPickT s93 cst) rfl fun a94 p95 s96 => ?_
      exact rN ⟨rfl, rfl, (((((((Pg.refl p43.z).st p75 rfl).st p79 rfl).st p83 rfl).st p87 rfl).st p91 rfl).st p95 rfl), (orT hb45 s96)⟩
  rintro a97 ⟨pg98, s99⟩
  refine s1 pg98.z (okMv s99) rfl fun a100 p101 s102 => ?_
  refine cutP 6 (fun a' => Pg Try.f8.ntmps [19, 20, 21, 22, 23, 24] a100 a' ∧ a'.eval (.tmp 24) = .bool (((x0.kind != x1.kind) || (x0.n != x1.n)) || (x0.owner != x1.owner))) ?_ ?_
  · rcases bf ((x0.kind != x1.kind) || (x0.n != x1.n)) with hb103 | hb103
    · have s104 := bv s102 hb103
      have s105 := p101.o (pg98.o (p43.o (p40.o (p36.o (p33.o (p29.o (p25.o s23 rfl) rfl) rfl) rfl) rfl) rfl) rfl) rfl
      refine s1g p101.z (okFA (o' := 2) fo25_2 s105 rfl) rfl (yd p101.z rfl rfl s104) fun a106 p107 s108 => ?_
      have s109 := p107.o s104 rfl
      refine s1g p107.z (okLd (j := 2) na3 s108 (m27.cl) rfl rfl) rfl (yd p107.z rfl rfl s109) fun a110 p111 s112 => ?_
      have s113 := p111.o s109 rfl
      have s114 := p111.o (p107.o (p101.o (pg98.o (p43.o (p40.o (p36.o (p33.o s31 rfl) rfl) rfl) rfl) rfl) rfl) rfl) rfl
      refine s1g p111.z (okFA (o' := 2) fo25_2 s114 rfl) rfl (yd p111.z rfl rfl s113) fun a115 p116 s117 => ?_
      have s118 := p116.o s113 rfl
      refine s1g p116.z (okLd (j := 2) na3 s117 (m15.cl) rfl rfl) rfl (yd p116.z rfl rfl s118) fun a119 p120 s121 => ?_
      have s122 := p120.o s118 rfl
      have s123 := p120.o (p116.o s112 rfl) rfl
      refine s1g p120.z (okNe s123 s121) rfl (yd p120.z rfl rfl s122) fun a124 p125 s126 => ?_
      have s127 := p125.o s122 rfl
      refine s1 p125.z (okPickF s127 s126) rfl fun a128 p129 s130 => ?_
      exact rN ⟨rfl, rfl, (((((((Pg.refl p101.z).st p107 rfl).st p111 rfl).st p116 rfl).st p120 rfl).st p125 rfl).st p129 rfl), (orF hb103 s130)⟩
    · have s131 := bv s102 hb103
      refine s1k p101.z rfl (yd p101.z rfl rfl s131) rfl fun a132 p133 s134 => ?_
      have s135 := p133.o s131 rfl
      refine s1k p133.z rfl (yd p133.z rfl rfl s135) rfl fun a136 p137 s138 => ?_
      have s139 := p137.o s135 rfl
      refine s1k p137.z rfl (yd p137.z rfl rfl s139) rfl fun a140 p141 s142 => ?_
      have s143 := p141.o s139 rfl
      refine s1k p141.z rfl (yd p141.z rfl rfl s143) rfl fun a144 p145 s146 => ?_
      have s147 := p145.o s143 rfl
      refine s1k p145.z rfl (yd p145.z rfl rfl s147) rfl fun a148 p149 s150 => ?_
      have s151 := p149.o s147 rfl
      refine s1 p149.z (okPickT s151 cst) rfl fun a152 p153 s154 => ?_
      exact rN ⟨rfl, rfl, (((((((Pg.refl p101.z).st p133 rfl).st p137 rfl).st p141 rfl).st p145 rfl).st p149 rfl).st p153 rfl), (orT hb103 s154)⟩
  rintro a155 ⟨pg156, s157⟩
  refine s1 pg156.z (okMv s157) rfl fun a158 p159 s160 => ?_
  refine cutP 6 (fun a' => Pg Try.f8.ntmps [26, 27, 28, 29, 30, 31] a158 a' ∧ a'.eval (.tmp 31) = .bool ((((x0.kind != x1.kind) || (x0.n != x1.n)) || (x0.owner != x1.owner)) || (x0.holds != x1.holds))) ?_ ?_
  · rcases bf (((x0.kind != x1.kind) || (x0.n != x1.n)) || (x0.owner != x1.owner)) with hb161 | hb161
    · have s162 := bv s160 hb161
      have s163 := p159.o (pg156.o (p101.o (pg98.o (p43.o (p40.o (p36.o (p33.o (p29.o (p25.o s23 rfl) rfl) rfl) rfl) rfl) rfl) rfl) rfl) rfl) rfl
      refine s1g p159.z (okFA (o' := 3) fo25_3 s163 rfl) rfl (yd p159.z rfl rfl s162) fun a164 p165 s166 => ?_
      have s167 := p165.o s162 rfl
      refine s1g p165.z (okLd (j := 3) na3 s166 (m27.cl) rfl rfl) rfl (yd p165.z rfl rfl s167) fun a168 p169 s170 => ?_
      have s171 := p169.o s167 rfl
      have s172 := p169.o (p165.o (p159.o (pg156.o (p101.o (pg98.o (p43.o (p40.o (p36.o (p33.o s31 rfl) rfl) rfl) rfl) rfl) rfl) rfl) rfl) rfl) rfl
      refine s1g p169.z (okFA (o' := 3) fo25_3 s172 rfl) rfl (yd p169.z rfl rfl s171) fun a173 p174 s175 => ?_
      have s176 := p174.o s171 rfl
      refine s1g p174.z (okLd (j := 3) na3 s175 (m15.cl) rfl rfl) rfl (yd p174.z rfl rfl s176) fun a177 p178 s179 => ?_
      have s180 := p178.o s176 rfl
      have s181 := p178.o (p174.o s170 rfl) rfl
      refine s1g p178.z (okNe s181 s179) rfl (yd p178.z rfl rfl s180) fun a182 p183 s184 => ?_
      have s185 := p183.o s180 rfl
      refine s1 p183.z (okPickF s185 s184) rfl fun a186 p187 s188 => ?_
      exact rN ⟨rfl, rfl, (((((((Pg.refl p159.z).st p165 rfl).st p169 rfl).st p174 rfl).st p178 rfl).st p183 rfl).st p187 rfl), (orF hb161 s188)⟩
    · have s189 := bv s160 hb161
      refine s1k p159.z rfl (yd p159.z rfl rfl s189) rfl fun a190 p191 s192 => ?_
      have s193 := p191.o s189 rfl
      refine s1k p191.z rfl (yd p191.z rfl rfl s193) rfl fun a194 p195 s196 => ?_
      have s197 := p195.o s193 rfl
      refine s1k p195.z rfl (yd p195.z rfl rfl s197) rfl fun a198 p199 s200 => ?_
      have s201 := p199.o s197 rfl
      refine s1k p199.z rfl (yd p199.z rfl rfl s201) rfl fun a202 p203 s204 => ?_
      have s205 := p203.o s201 rfl
      refine s1k p203.z rfl (yd p203.z rfl rfl s205) rfl fun a206 p207 s208 => ?_
      have s209 := p207.o s205 rfl
      refine s1 p207.z (okPickT s209 cst) rfl fun a210 p211 s212 => ?_
      exact rN ⟨rfl, rfl, (((((((Pg.refl p159.z).st p191 rfl).st p195 rfl).st p199 rfl).st p203 rfl).st p207 rfl).st p211 rfl), (orT hb161 s212)⟩
  rintro a213 ⟨pg214, s215⟩
  refine s1 pg214.z (okMv s215) rfl fun a216 p217 s218 => ?_
  refine cutP 6 (fun a' => Pg Try.f8.ntmps [33, 34, 35, 36, 37, 38] a216 a' ∧ a'.eval (.tmp 38) = .bool (((((x0.kind != x1.kind) || (x0.n != x1.n)) || (x0.owner != x1.owner)) || (x0.holds != x1.holds)) || (!(x0.reads.eqb x1.reads)))) ?_ ?_
  · rcases bf ((((x0.kind != x1.kind) || (x0.n != x1.n)) || (x0.owner != x1.owner)) || (x0.holds != x1.holds)) with hb219 | hb219
    · have s220 := bv s218 hb219
      have s221 := p217.o (pg214.o (p159.o (pg156.o (p101.o (pg98.o (p43.o (p40.o (p36.o (p33.o (p29.o (p25.o s23 rfl) rfl) rfl) rfl) rfl) rfl) rfl) rfl) rfl) rfl) rfl) rfl
      refine s1g p217.z (okFA (o' := 4) fo25_4 s221 rfl) rfl (yd p217.z rfl rfl s220) fun a222 p223 s224 => ?_
      have s225 := p223.o s220 rfl
      refine s1g p223.z (okLdA (l := Arr8.C x0.reads) (j := 4) ag22 s224 (m27.cl) rfl rfl (partOf rfl)) rfl (yd p223.z rfl rfl s225) fun a226 p227 s228 => ?_
      have s229 := p227.o s225 rfl
      have s230 := p227.o (p223.o (p217.o (pg214.o (p159.o (pg156.o (p101.o (pg98.o (p43.o (p40.o (p36.o (p33.o s31 rfl) rfl) rfl) rfl) rfl) rfl) rfl) rfl) rfl) rfl) rfl) rfl
      refine s1g p227.z (okFA (o' := 4) fo25_4 s230 rfl) rfl (yd p227.z rfl rfl s229) fun a231 p232 s233 => ?_
      have s234 := p232.o s229 rfl
      refine s1g p232.z (okLdA (l := Arr8.C x1.reads) (j := 4) ag22 s233 (m15.cl) rfl rfl (partOf rfl)) rfl (yd p232.z rfl rfl s234) fun a235 p236 s237 => ?_
      have s238 := p236.o s234 rfl
      have s239 := p236.o (p232.o s228 rfl) rfl
      refine s1g p236.z (okSNe Try.eqGuardType22 s239 s237 (fun w => eq22 9998 w x0.reads x1.reads)) rfl (yd p236.z rfl rfl s238) fun a240 p241 s242 => ?_
      have s243 := p241.o s238 rfl
      refine s1 p241.z (okPickF s243 s242) rfl fun a244 p245 s246 => ?_
      exact rN ⟨rfl, rfl, (((((((Pg.refl p217.z).st p223 rfl).st p227 rfl).st p232 rfl).st p236 rfl).st p241 rfl).st p245 rfl), (orF hb219 s246)⟩
    · have s247 := bv s218 hb219
      refine s1k p217.z rfl (yd p217.z rfl rfl s247) rfl fun a248 p249 s250 => ?_
      have s251 := p249.o s247 rfl
      refine s1k p249.z rfl (yd p249.z rfl rfl s251) rfl fun a252 p253 s254 => ?_
      have s255 := p253.o s251 rfl
      refine s1k p253.z rfl (yd p253.z rfl rfl s255) rfl fun a256 p257 s258 => ?_
      have s259 := p257.o s255 rfl
      refine s1k p257.z rfl (yd p257.z rfl rfl s259) rfl fun a260 p261 s262 => ?_
      have s263 := p261.o s259 rfl
      refine s1k p261.z rfl (yd p261.z rfl rfl s263) rfl fun a264 p265 s266 => ?_
      have s267 := p265.o s263 rfl
      refine s1 p265.z (okPickT s267 cst) rfl fun a268 p269 s270 => ?_
      exact rN ⟨rfl, rfl, (((((((Pg.refl p217.z).st p249 rfl).st p253 rfl).st p257 rfl).st p261 rfl).st p265 rfl).st p269 rfl), (orT hb219 s270)⟩
  rintro a271 ⟨pg272, s273⟩
  refine s1 pg272.z (okMv s273) rfl fun a274 p275 s276 => ?_
  refine cutP 6 (fun a' => Pg Try.f8.ntmps [40, 41, 42, 43, 44, 45] a274 a' ∧ a'.eval (.tmp 45) = .bool ((((((x0.kind != x1.kind) || (x0.n != x1.n)) || (x0.owner != x1.owner)) || (x0.holds != x1.holds)) || (!(x0.reads.eqb x1.reads))) || (x0.offer != x1.offer))) ?_ ?_
  · rcases bf (((((x0.kind != x1.kind) || (x0.n != x1.n)) || (x0.owner != x1.owner)) || (x0.holds != x1.holds)) || (!(x0.reads.eqb x1.reads))) with hb277 | hb277
    · have s278 := bv s276 hb277
      have s279 := p275.o (pg272.o (p217.o (pg214.o (p159.o (pg156.o (p101.o (pg98.o (p43.o (p40.o (p36.o (p33.o (p29.o (p25.o s23 rfl) rfl) rfl) rfl) rfl) rfl) rfl) rfl) rfl) rfl) rfl) rfl) rfl) rfl
      refine s1g p275.z (okFA (o' := 13) fo25_6 s279 rfl) rfl (yd p275.z rfl rfl s278) fun a280 p281 s282 => ?_
      have s283 := p281.o s278 rfl
      refine s1g p281.z (okLd (j := 13) na3 s282 (m27.cl) rfl rfl) rfl (yd p281.z rfl rfl s283) fun a284 p285 s286 => ?_
      have s287 := p285.o s283 rfl
      have s288 := p285.o (p281.o (p275.o (pg272.o (p217.o (pg214.o (p159.o (pg156.o (p101.o (pg98.o (p43.o (p40.o (p36.o (p33.o s31 rfl) rfl) rfl) rfl) rfl) rfl) rfl) rfl) rfl) rfl) rfl) rfl) rfl) rfl
      refine s1g p285.z (okFA (o' := 13) fo25_6 s288 rfl) rfl (yd p285.z rfl rfl s287) fun a289 p290 s291 => ?_
      have s292 := p290.o s287 rfl
      refine s1g p290.z (okLd (j := 13) na3 s291 (m15.cl) rfl rfl) rfl (yd p290.z rfl rfl s292) fun a293 p294 s295 => ?_
      have s296 := p294.o s292 rfl
      have s297 := p294.o (p290.o s286 rfl) rfl
      refine s1g p294.z (okNe s297 s295) rfl (yd p294.z rfl rfl s296) fun a298 p299 s300 => ?_
      have s301 := p299.o s296 rfl
      refine s1 p299.z (okPickF s301 s300) rfl fun a302 p303 s304 => ?_
      exact rN ⟨rfl, rfl, (((((((Pg.refl p275.z).st p281 rfl).st p285 rfl).st p290 rfl).st p294 rfl).st p299 rfl).st p303 rfl), (orF hb277 s304)⟩
    · have s305 := bv s276 hb277
      refine s1k p275.z rfl (yd p275.z rfl rfl s305) rfl fun a306 p307 s308 => ?_
      have s309 := p307.o s305 rfl
      refine s1k p307.z rfl (yd p307.z rfl rfl s309) rfl fun a310 p311 s312 => ?_
      have s313 := p311.o s309 rfl
      refine s1k p311.z rfl (yd p311.z rfl rfl s313) rfl fun a314 p315 s316 => ?_
      have s317 := p315.o s313 rfl
      refine s1k p315.z rfl (yd p315.z rfl rfl s317) rfl fun a318 p319 s320 => ?_
      have s321 := p319.o s317 rfl
      refine s1k p319.z rfl (yd p319.z rfl rfl s321) rfl fun a322 p323 s324 => ?_
      have s325 := p323.o s321 rfl
      refine s1 p323.z (okPickT s325 cst) rfl fun a326 p327 s328 => ?_
      exact rN ⟨rfl, rfl, (((((((Pg.refl p275.z).st p307 rfl).st p311 rfl).st p315 rfl).st p319 rfl).st p323 rfl).st p327 rfl), (orT hb277 s328)⟩
  rintro a329 ⟨pg330, s331⟩
  refine s1 pg330.z (okMv s331) rfl fun a332 p333 s334 => ?_
  refine cutP 6 (fun a' => Pg Try.f8.ntmps [47, 48, 49, 50, 51, 52] a332 a' ∧ a'.eval (.tmp 52) = .bool (((((((x0.kind != x1.kind) || (x0.n != x1.n)) || (x0.owner != x1.owner)) || (x0.holds != x1.holds)) || (!(x0.reads.eqb x1.reads))) || (x0.offer != x1.offer)) || (x0.item != x1.item))) ?_ ?_
  · rcases bf ((((((x0.kind != x1.kind) || (x0.n != x1.n)) || (x0.owner != x1.owner)) || (x0.holds != x1.holds)) || (!(x0.reads.eqb x1.reads))) || (x0.offer != x1.offer)) with hb335 | hb335
    · have s336 := bv s334 hb335
      have s337 := p333.o (pg330.o (p275.o (pg272.o (p217.o (pg214.o (p159.o (pg156.o (p101.o (pg98.o (p43.o (p40.o (p36.o (p33.o (p29.o (p25.o s23 rfl) rfl) rfl) rfl) rfl) rfl) rfl) rfl) rfl) rfl) rfl) rfl) rfl) rfl) rfl) rfl
      refine s1g p333.z (okFA (o' := 14) fo25_7 s337 rfl) rfl (yd p333.z rfl rfl s336) fun a338 p339 s340 => ?_
      have s341 := p339.o s336 rfl
      refine s1g p339.z (okLd (j := 14) na3 s340 (m27.cl) rfl rfl) rfl (yd p339.z rfl rfl s341) fun a342 p343 s344 => ?_
      have s345 := p343.o s341 rfl
      have s346 := p343.o (p339.o (p333.o (pg330.o (p275.o (pg272.o (p217.o (pg214.o (p159.o (pg156.o (p101.o (pg98.o (p43.o (p40.o (p36.o (p33.o s31 rfl) rfl) rfl) rfl) rfl) rfl) rfl) rfl) rfl) rfl) rfl) rfl) rfl) rfl) rfl) rfl
      refine s1g p343.z (okFA (o' := 14) fo25_7 s346 rfl) rfl (yd p343.z rfl rfl s345) fun a347 p348 s349 => ?_
      have s350 := p348.o s345 rfl
      refine s1g p348.z (okLd (j := 14) na3 s349 (m15.cl) rfl rfl) rfl (yd p348.z rfl rfl s350) fun a351 p352 s353 => ?_
      have s354 := p352.o s350 rfl
      have s355 := p352.o (p348.o s344 rfl) rfl
      refine s1g p352.z (okNe s355 s353) rfl (yd p352.z rfl rfl s354) fun a356 p357 s358 => ?_
      have s359 := p357.o s354 rfl
      refine s1 p357.z (okPickF s359 s358) rfl fun a360 p361 s362 => ?_
      exact rN ⟨rfl, rfl, (((((((Pg.refl p333.z).st p339 rfl).st p343 rfl).st p348 rfl).st p352 rfl).st p357 rfl).st p361 rfl), (orF hb335 s362)⟩
    · have s363 := bv s334 hb335
      refine s1k p333.z rfl (yd p333.z rfl rfl s363) rfl fun a364 p365 s366 => ?_
      have s367 := p365.o s363 rfl
      refine s1k p365.z rfl (yd p365.z rfl rfl s367) rfl fun a368 p369 s370 => ?_
      have s371 := p369.o s367 rfl
      refine s1k p369.z rfl (yd p369.z rfl rfl s371) rfl fun a372 p373 s374 => ?_
      have s375 := p373.o s371 rfl
      refine s1k p373.z rfl (yd p373.z rfl rfl s375) rfl fun a376 p377 s378 => ?_
      have s379 := p377.o s375 rfl
      refine s1k p377.z rfl (yd p377.z rfl rfl s379) rfl fun a380 p381 s382 => ?_
      have s383 := p381.o s379 rfl
      refine s1 p381.z (okPickT s383 cst) rfl fun a384 p385 s386 => ?_
      exact rN ⟨rfl, rfl, (((((((Pg.refl p333.z).st p365 rfl).st p369 rfl).st p373 rfl).st p377 rfl).st p381 rfl).st p385 rfl), (orT hb335 s386)⟩
  rintro a387 ⟨pg388, s389⟩
  refine s1 pg388.z (okMv s389) rfl fun a390 p391 s392 => ?_
  refine cutP 8 (fun a' => Pg Try.f8.ntmps [54, 55, 56, 57, 58, 59, 60, 61] a390 a' ∧ a'.eval (.tmp 61) = .bool ((((((((x0.kind != x1.kind) || (x0.n != x1.n)) || (x0.owner != x1.owner)) || (x0.holds != x1.holds)) || (!(x0.reads.eqb x1.reads))) || (x0.offer != x1.offer)) || (x0.item != x1.item)) || ((x0.waiters.length : Int) != (x1.waiters.length : Int)))) ?_ ?_
  · rcases bf (((((((x0.kind != x1.kind) || (x0.n != x1.n)) || (x0.owner != x1.owner)) || (x0.holds != x1.holds)) || (!(x0.reads.eqb x1.reads))) || (x0.offer != x1.offer)) || (x0.item != x1.item)) with hb393 | hb393
    · have s394 := bv s392 hb393
      have s395 := p391.o (pg388.o (p333.o (pg330.o (p275.o (pg272.o (p217.o (pg214.o (p159.o (pg156.o (p101.o (pg98.o (p43.o (p40.o (p36.o (p33.o (p29.o (p25.o s23 rfl) rfl) rfl) rfl) rfl) rfl) rfl) rfl) rfl) rfl) rfl) rfl) rfl) rfl) rfl) rfl) rfl) rfl
      refine s1g p391.z (okFA (o' := 12) fo25_5 s395 rfl) rfl (yd p391.z rfl rfl s394) fun a396 p397 s398 => ?_
      have s399 := p397.o s394 rfl
      refine s1g p397.z (okLd (j := 12) na23 s398 (m27.cl) rfl rfl) rfl (yd p397.z rfl rfl s399) fun a400 p401 s402 => ?_
      have s403 := p401.o s399 rfl
      have q404 := qh0_0.mono ((g6.tA (Nat.le_of_eq e7.symm)).trans (g16.tA (Nat.le_of_eq e17.symm)))
      refine s1g p401.z (okLenR Try.underlying23 s402 q404) rfl (yd p401.z rfl rfl s403) fun a405 p406 s407 => ?_
      have s408 := p406.o s403 rfl
      have s409 := p406.o (p401.o (p397.o (p391.o (pg388.o (p333.o (pg330.o (p275.o (pg272.o (p217.o (pg214.o (p159.o (pg156.o (p101.o (pg98.o (p43.o (p40.o (p36.o (p33.o s31 rfl) rfl) rfl) rfl) rfl) rfl) rfl) rfl) rfl) rfl) rfl) rfl) rfl) rfl) rfl) rfl) rfl) rfl) rfl
      refine s1g p406.z (okFA (o' := 12) fo25_5 s409 rfl) rfl (yd p406.z rfl rfl s408) fun a410 p411 s412 => ?_
      have s413 := p411.o s408 rfl
      refine s1g p411.z (okLd (j := 12) na23 s412 (m15.cl) rfl rfl) rfl (yd p411.z rfl rfl s413) fun a414 p415 s416 => ?_
      have s417 := p415.o s413 rfl
      have q418 := qh1_0.mono ((g6.tA (Nat.le_of_eq e7.symm)).trans (g16.tA (Nat.le_of_eq e17.symm)))
      refine s1g p415.z (okLenR Try.underlying23 s416 q418) rfl (yd p415.z rfl rfl s417) fun a419 p420 s421 => ?_
      have s422 := p420.o s417 rfl
      have s423 := p420.o (p415.o (p411.o s407 rfl) rfl) rfl
      refine s1g p420.z (okNe s423 s421) rfl (yd p420.z rfl rfl s422) fun a424 p425 s426 => ?_
      have s427 := p425.o s422 rfl
      refine s1 p425.z (okPickF s427 s426) rfl fun a428 p429 s430 => ?_
      exact rN ⟨rfl, rfl, (((((((((Pg.refl p391.z).st p397 rfl).st p401 rfl).st p406 rfl).st p411 rfl).st p415 rfl).st p420 rfl).st p425 rfl).st p429 rfl), (orF hb393 s430)⟩
    · have s431 := bv s392 hb393
      refine s1k p391.z rfl (yd p391.z rfl rfl s431) rfl fun a432 p433 s434 => ?_
      have s435 := p433.o s431 rfl
      refine s1k p433.z rfl (yd p433.z rfl rfl s435) rfl fun a436 p437 s438 => ?_
      have s439 := p437.o s435 rfl
      refine s1k p437.z rfl (yd p437.z rfl rfl s439) rfl fun a440 p441 s442 => ?_
      have s443 := p441.o s439 rfl
      refine s1k p441.z rfl (yd p441.z rfl rfl s443) rfl fun a444 p445 s446 => ?_
      have s447 := p445.o s443 rfl
      refine s1k p445.z rfl (yd p445.z rfl rfl s447) rfl fun a448 p449 s450 => ?_
      have s451 := p449.o s447 rfl
      refine s1k p449.z rfl (yd p449.z rfl rfl s451) rfl fun a452 p453 s454 => ?_
      have s455 := p453.o s451 rfl
      refine s1k p453.z rfl (yd p453.z rfl rfl s455) rfl fun a456 p457 s458 => ?_
      have s459 := p457.o s455 rfl
      refine s1 p457.z (okPickT s459 cst) rfl fun a460 p461 s462 => ?_
      exact rN ⟨rfl, rfl, (((((((((Pg.refl p391.z).st p433 rfl).st p437 rfl).st p441 rfl).st p445 rfl).st p449 rfl).st p453 rfl).st p457 rfl).st p461 rfl), (orT hb393 s462)⟩
  rintro a463 ⟨pg464, s465⟩
  refine rN (thenN ?_)
  have s466 := pg464.o (p391.o (pg388.o (p333.o (pg330.o (p275.o (pg272.o (p217.o (pg214.o (p159.o (pg156.o (p101.o (pg98.o (p43.o (p40.o (p36.o (p33.o (p29.o (p25.o s23 rfl) rfl) rfl) rfl) rfl) rfl) rfl) rfl) rfl) rfl) rfl) rfl) rfl) rfl) rfl) rfl) rfl) rfl) rfl
  have s467 := pg464.o (p391.o (pg388.o (p333.o (pg330.o (p275.o (pg272.o (p217.o (pg214.o (p159.o (pg156.o (p101.o (pg98.o (p43.o (p40.o (p36.o (p33.o s31 rfl) rfl) rfl) rfl) rfl) rfl) rfl) rfl) rfl) rfl) rfl) rfl) rfl) rfl) rfl) rfl) rfl
  have s468 := pg464.o (p391.o (pg388.o (p333.o (pg330.o (p275.o (pg272.o (p217.o (pg214.o (p159.o (pg156.o (p101.o (pg98.o (p43.o (p40.o (p36.o (p33.o (p29.o (p25.o s22 rfl) rfl) rfl) rfl) rfl) rfl) rfl) rfl) rfl) rfl) rfl) rfl) rfl) rfl) rfl) rfl) rfl) rfl) rfl
  have pg469 : Pg _ [2, 3, 4, 6, 7, 8, 9, 10, 11, 12, 13, 14, 15, 16, 17, 18, 19, 20, 21, 22, 23, 24, 25, 26, 27, 28, 29, 30, 31, 32, 33, 34, 35, 36, 37, 38, 39, 40, 41, 42, 43, 44, 45, 46, 47, 48, 49, 50, 51, 52, 53, 54, 55, 56, 57, 58, 59, 60, 61] _ _ := (((((((((((((((((((((((Pg.refl z0).st p4 rfl).st p14 rfl).st p21 rfl).st p25 rfl).st p29 rfl).st p33 rfl).st p36 rfl).st p40 rfl).st p43 rfl).tr pg98 rfl).st p101 rfl).tr pg156 rfl).st p159 rfl).tr pg214 rfl).st p217 rfl).tr pg272 rfl).st p275 rfl).tr pg330 rfl).st p333 rfl).tr pg388 rfl).st p391 rfl).tr pg464 rfl)
  refine cnd s465 (fun hb470 => ?_) (fun hb470 => ?_)
  · replace h := (ifP hb470).symm.trans h
    refine wp_seq ?_
    refine reg ?_
    refine s1 pg469.z (okAs cst) rfl fun a471 p472 s473 => ?_
    refine rN (thenN ?_)
    obtain rfl := Option.some.inj h
    exact wp_ret (thenR (ret1 p472.z Try.results8 (rvT s473) ⟨_, rfl, rfl, cx18.g⟩))
  replace h := (ifN hb470).symm.trans h
  refine wp_skip (thenN ?_)
  refine wp_seq ?_
  refine wp_seq ?_
  refine reg ?_
  refine s1 pg469.z (okAs cst) rfl fun a474 p475 s476 => ?_
  refine rN (thenN ?_)
  refine wp_block ?_
  obtain ⟨o478, ho479, h⟩ := Option.bind_eq_some_iff.1 h
  have s481 := p475.o s466 rfl
  have s482 := p475.o s467 rfl
  have s483 := p475.o s468 rfl
  have q484 := qh0_0.mono ((g6.tA (Nat.le_of_eq e7.symm)).trans (g16.tA (Nat.le_of_eq e17.symm)))
  have q485 := qh1_0.mono ((g6.tA (Nat.le_of_eq e7.symm)).trans (g16.tA (Nat.le_of_eq e17.symm)))
  refine loopX (I := (fun k' a' w' => ∃ i477, Z Try.f8.ntmps a' ∧ a'.eval (.tmp 2) = ptr b3 0 ∧ a'.eval (.tmp 3) = ptr b13 0 ∧ a'.eval (.tmp 4) = .bool false ∧ a'.eval (.tmp 5) = .int .i64 i477 ∧ Bk w' b3 (TThing.C x0 h0_0) 25 ∧ Bk w' b13 (TThing.C x1 h1_0) 25 ∧ RdS KTWaiter (b13 :: b3 :: L) w' h0_0 x0.waiters ∧ RdS KTWaiter (b13 :: b3 :: L) w' h1_0 x1.waiters ∧ Cx [] w (b13 :: b3 :: L) w' ∧ tholeref10_Same.l0 x0 x1 k' i477 = some o478)) 0 (fun a' w' => ∃ g480, o478 = .go g480 ∧ Z Try.f8.ntmps a' ∧ a'.eval (.tmp 4) = .bool false ∧ Bk w' b3 (TThing.C x0 h0_0) 25 ∧ Bk w' b13 (TThing.C x1 h1_0) 25 ∧ RdS KTWaiter (b13 :: b3 :: L) w' h0_0 x0.waiters ∧ RdS KTWaiter (b13 :: b3 :: L) w' h1_0 x1.waiters ∧ Cx [] w (b13 :: b3 :: L) w') ⟨0, p475.z, s481, s482, s483, s476, m27, m15, q484, q485, cx18, ho479⟩ ?_ ?_
  · have oh499 := h; clear h ho479
    rintro k486 a487 w488 ⟨i477, z489, s490, s491, s492, s493, m494, m495, q496, q497, cx498, h⟩
    obtain _ | k := k486
    case zero => cases h
    rw [tholeref10_Same.l0] at h
    refine wp_seq ?_
    refine wp_seq ?_
    refine reg ?_
    refine s1 z489 (okMv s493) rfl fun a500 p501 s502 => ?_
    have s503 := p501.o s490 rfl
    refine s1 p501.z (okFA (o' := 12) fo25_5 s503 rfl) rfl fun a504 p505 s506 => ?_
    refine s1 p505.z (okLd (j := 12) na23 s506 (m494.cl) rfl rfl) rfl fun a507 p508 s509 => ?_
    refine s1 p508.z (okLenR Try.underlying23 s509 q496) rfl fun a510 p511 s512 => ?_
    have s513 := p511.o (p508.o (p505.o s502 rfl) rfl) rfl
    refine s1 p511.z (okLt s513 s512) rfl fun a514 p515 s516 => ?_
    refine rN (thenN ?_)
    have s517 := p515.o (p511.o (p508.o (p505.o s503 rfl) rfl) rfl) rfl
    have s518 := p515.o s513 rfl
    have s519 := p515.o (p511.o (p508.o s506 rfl) rfl) rfl
    have s520 := p515.o (p511.o s509 rfl) rfl
    have s521 := p515.o s512 rfl
    have pg522 : Pg _ [62, 63, 64, 65, 66] _ _ := ((((((Pg.refl z489).st p501 rfl).st p505 rfl).st p508 rfl).st p511 rfl).st p515 rfl)
    refine cnd s516 (fun hb523 => ?_) (fun hb523 => ?_)
    · replace h := (ifP hb523).symm.trans h
      refine wp_skip (thenN ?_)
      refine wp_seq ?_
      refine wp_block ?_
      refine wp_seq ?_
      refine regS mixed (by kernel_rfl) ?_
      have g524 := G.drew w488
      have cx525 := cx498.ca g524
      refine t1 pg522.z (okFA (o' := 12) fo25_5 s517 rfl) rfl fun a526 p527 s528 => ?_
      have m529 := m494.g0 g524
      refine t1 p527.z (okLd (j := 12) na23 s528 (m529.cl) rfl rfl) rfl fun a530 p531 s532 => ?_
      have s533 := p531.o (p527.o (pg522.o s493 rfl) rfl) rfl
      refine t1 p531.z (okMv s533) rfl fun a534 p535 s536 => ?_
      have s537 := p535.o s532 rfl
      have q538 := q496.mono g524.t0
      obtain ⟨y539, hy540, h⟩ := Option.bind_eq_some_iff.1 h
      obtain ⟨b541, o542, cs543, r545, e546, nb547, k544⟩ := q538.at_ hy540
      obtain rfl := r545
      refine t1 p535.z (k544 Try.underlying23 Try.sizeOf45 s537 s536 _) rfl fun a548 p549 s550 => ?_
      refine t1 p549.z (okLdA ag45 s550 e546 rfl rfl whole) rfl fun a551 p552 s553 => ?_
      have s554 := p552.o (p549.o (p535.o (p531.o (p527.o (pg522.o s491 rfl) rfl) rfl) rfl) rfl) rfl
      refine t1 p552.z (okFA (o' := 12) fo25_5 s554 rfl) rfl fun a555 p556 s557 => ?_
      have m558 := m495.g0 g524
      refine t1 p556.z (okLd (j := 12) na23 s557 (m558.cl) rfl rfl) rfl fun a559 p560 s561 => ?_
      have s562 := p560.o (p556.o (p552.o (p549.o (p535.o s533 rfl) rfl) rfl) rfl) rfl
      refine t1 p560.z (okMv s562) rfl fun a563 p564 s565 => ?_
      have s566 := p564.o s561 rfl
      have q567 := q497.mono g524.t0
      obtain ⟨y568, hy569, h⟩ := Option.bind_eq_some_iff.1 h
      obtain ⟨b570, o571, cs572, r574, e575, nb576, k573⟩ := q567.at_ hy569
      obtain rfl := r574
      refine t1 p564.z (k573 Try.underlying23 Try.sizeOf45 s566 s565 _) rfl fun a577 p578 s579 => ?_
      refine t1 p578.z (okLdA ag45 s579 e575 rfl rfl whole) rfl fun a580 p581 s582 => ?_
      have s583 := p581.o (p578.o (p564.o (p560.o (p556.o s553 rfl) rfl) rfl) rfl) rfl
      refine t1 p581.z (okSNe Try.eqGuardType45 s583 s582 (fun w => eq45 9998 w y539 y568)) rfl fun a584 p585 s586 => ?_
      refine tN (thenN ?_)
      have s587 := p585.o (p581.o (p578.o (p564.o (p560.o (p556.o s554 rfl) rfl) rfl) rfl) rfl) rfl
      have s588 := p585.o (p581.o (p578.o (p564.o s562 rfl) rfl) rfl) rfl
      have s589 := p585.o (p581.o (p578.o (p564.o (p560.o (p556.o (p552.o (p549.o (p535.o (p531.o s528 rfl) rfl) rfl) rfl) rfl) rfl) rfl) rfl) rfl) rfl
      have s590 := p585.o (p581.o (p578.o (p564.o (p560.o (p556.o (p552.o (p549.o s537 rfl) rfl) rfl) rfl) rfl) rfl) rfl) rfl
      have s591 := p585.o (p581.o (p578.o (p564.o (p560.o (p556.o (p552.o (p549.o s536 rfl) rfl) rfl) rfl) rfl) rfl) rfl) rfl
      have s592 := p585.o (p581.o (p578.o (p564.o (p560.o (p556.o (p552.o s550 rfl) rfl) rfl) rfl) rfl) rfl) rfl
      have s593 := p585.o s583 rfl
      have s594 := p585.o (p581.o (p578.o (p564.o (p560.o s557 rfl) rfl) rfl) rfl) rfl
      have s595 := p585.o (p581.o (p578.o s566 rfl) rfl) rfl
      have s596 := p585.o (p581.o (p578.o s565 rfl) rfl) rfl
      have s597 := p585.o (p581.o s579 rfl) rfl
      have s598 := p585.o s582 rfl
      have pg599 : Pg _ [69, 70, 71, 72, 73, 74, 75, 76, 77, 78, 79] _ _ := ((((((((((((Pg.refl pg522.z).st p527 rfl).st p531 rfl).st p535 rfl).st p549 rfl).st p552 rfl).st p556 rfl).st p560 rfl).st p564 rfl).st p578 rfl).st p581 rfl).st p585 rfl)
      refine cnd s586 (fun hb600 => ?_) (fun hb600 => ?_)
      · replace h := (ifP hb600).symm.trans h
        refine wp_seq ?_
        refine reg ?_
        refine s1 pg599.z (okAs cst) rfl fun a601 p602 s603 => ?_
        refine rN (thenN ?_)
        obtain rfl := Option.some.inj h
        obtain rfl := Option.some.inj oh499
        exact wp_ret (blkR (thenR (thenR (jqR (blkR (thenR (ret1 p602.z Try.results8 (rvT s603) ⟨_, rfl, rfl, cx525.g⟩)))))))
      replace h := (ifN hb600).symm.trans h
      refine wp_skip (blkN (thenN ?_))
      refine reg ?_
      refine s1 pg599.z (okMv s588) rfl fun a604 p605 s606 => ?_
      refine s1 p605.z (okAdd s606 cst) rfl fun a607 p608 s609 => ?_
      refine s1 p608.z (okAs s609) rfl fun a610 p611 s612 => ?_
      have s613 := p611.o (p608.o (p605.o (pg599.o s517 rfl) rfl) rfl) rfl
      have s614 := p611.o (p608.o (p605.o s587 rfl) rfl) rfl
      have s615 := p611.o (p608.o (p605.o (pg599.o (pg522.o s492 rfl) rfl) rfl) rfl) rfl
      exact rN (thenN ⟨k, Nat.lt_succ_self k, (w64 (i477 + 1)), p611.z, s613, s614, s615, s612, m529, m558, q538, q567, cx525, h⟩)
    replace h := (ifN hb523).symm.trans h
    obtain rfl := Option.some.inj h
    have s616 := pg522.o s492 rfl
    exact wp_exit (thenE (thenE (jqE ⟨_, rfl, pg522.z, s616, m494, m495, q496, q497, cx498⟩)))
  clear ho479
  rintro a617 w618 ⟨g480, rfl, z619, s620, m621, m622, q623, q624, cx625⟩
  refine blkE (thenN ?_)
  refine wp_seq ?_
  refine reg ?_
  refine s1 z619 (okAs cst) rfl fun a626 p627 s628 => ?_
  refine rN (thenN ?_)
  obtain rfl := Option.some.inj h
  exact wp_ret (ret1 p627.z Try.results8 (rvT s628) ⟨_, rfl, rfl, cx625.g⟩)
end Go.Proofs.Ytbfndihcbogjfaa
