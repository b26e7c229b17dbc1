/-
  The Go functions micro_machine_frames, clock_Due, permit_Table_Park, permit_Table_on, permit_Table_Unpark, permit_Table_Now, permit_Table_Clear, permit_Table_Interrupt: each comes to its plain function. Conditions: where the plain function is some.
-/
import Derived.Test.YtjdalhedpgiimaaW1
set_option linter.unusedVariables false
namespace Go.Proofs.Ytjdalhedpgiimaa
open Go Go.RowKit Go.Proofs.Ytjdalhedpgiimaa.Gx
set_option maxHeartbeats 4000000 in
set_option maxRecDepth 100000 in
theorem c35 (L : List Nat) (w : World) (x0 : Tmicro_machine) (ob0 : Nat) (hp0_0 : Value) (ob0_1 : Nat) (hp0_1_0 : Value) (ob0_2 : Nat) (hp0_2_0 : Value) (hp0_3 : Value) (hp0_4 : Value) (x1 : TIns) (hL : ∀ b ∈ (ob0 :: (ob0_1 :: (ownB hp0_1_0 ++ (ob0_2 :: (ownB hp0_2_0 ++ (ownB hp0_3 ++ (ownB hp0_4 ++ L))))))), b < w.heap.size) (D : Sep [[ob0], [ob0_1], ownB hp0_1_0, [ob0_2], ownB hp0_2_0, ownB hp0_3, ownB hp0_4] L) (mob0 : Bk w ob0 (Tmicro_machine.C ({ x0 with a := default, t := default }) hp0_0 (ptr ob0_1 0) (ptr ob0_2 0) hp0_3 hp0_4) 68) (qhp0_0 : RdS KTIns (ob0 :: (ob0_1 :: (ownB hp0_1_0 ++ (ob0_2 :: (ownB hp0_2_0 ++ (ownB hp0_3 ++ (ownB hp0_4 ++ L))))))) w hp0_0 x0.code) (mob0_1 : Bk w ob0_1 (Tcell_Arena.C x0.a hp0_1_0) 72) (qhp0_1_0 : OwnS (KInt .i64) 2 (ob0 :: (ob0_1 :: (ownB hp0_1_0 ++ (ob0_2 :: (ownB hp0_2_0 ++ (ownB hp0_3 ++ (ownB hp0_4 ++ L))))))) w hp0_1_0 x0.a.l) (mob0_2 : Bk w ob0_2 (Tpermit_Table.C x0.t hp0_2_0) 78) (qhp0_2_0 : OwnS KTPark 59 (ob0 :: (ob0_1 :: (ownB hp0_1_0 ++ (ob0_2 :: (ownB hp0_2_0 ++ (ownB hp0_3 ++ (ownB hp0_4 ++ L))))))) w hp0_2_0 x0.t.l) (qhp0_3 : OwnS KTFrame 66 (ob0 :: (ob0_1 :: (ownB hp0_1_0 ++ (ob0_2 :: (ownB hp0_2_0 ++ (ownB hp0_3 ++ (ownB hp0_4 ++ L))))))) w hp0_3 x0.l) (qhp0_4 : OwnS KTNote 80 (ob0 :: (ob0_1 :: (ownB hp0_1_0 ++ (ob0_2 :: (ownB hp0_2_0 ++ (ownB hp0_3 ++ (ownB hp0_4 ++ L))))))) w hp0_4 x0.notes) (r : Bool × Tmicro_machine) (h : micro_machine_frames x0 x1 = some r) : Calls Try.prog 35 #[ptr ob0 0, .agg (TIns.C x1).toArray] w (fun e w' => ∃ v, e = .returned v ∧ ∃ nhp0_3, v = .bool r.1 ∧ Bk w' ob0 (Tmicro_machine.C ({ r.2 with a := default, t := default }) hp0_0 (ptr ob0_1 0) (ptr ob0_2 0) nhp0_3 hp0_4) 68 ∧ RdS KTIns (ob0 :: (ob0_1 :: (ownB hp0_1_0 ++ (ob0_2 :: (ownB hp0_2_0 ++ (ownB nhp0_3 ++ (ownB hp0_4 ++ L))))))) w' hp0_0 r.2.code ∧ Bk w' ob0_1 (Tcell_Arena.C r.2.a hp0_1_0) 72 ∧ OwnS (KInt .i64) 2 (ob0 :: (ob0_1 :: (ownB hp0_1_0 ++ (ob0_2 :: (ownB hp0_2_0 ++ (ownB nhp0_3 ++ (ownB hp0_4 ++ L))))))) w' hp0_1_0 r.2.a.l ∧ Bk w' ob0_2 (Tpermit_Table.C r.2.t hp0_2_0) 78 ∧ OwnS KTPark 59 (ob0 :: (ob0_1 :: (ownB hp0_1_0 ++ (ob0_2 :: (ownB hp0_2_0 ++ (ownB nhp0_3 ++ (ownB hp0_4 ++ L))))))) w' hp0_2_0 r.2.t.l ∧ OwnS KTFrame 66 (ob0 :: (ob0_1 :: (ownB hp0_1_0 ++ (ob0_2 :: (ownB hp0_2_0 ++ (ownB nhp0_3 ++ (ownB hp0_4 ++ L))))))) w' nhp0_3 r.2.l ∧ OwnS KTNote 80 (ob0 :: (ob0_1 :: (ownB hp0_1_0 ++ (ob0_2 :: (ownB hp0_2_0 ++ (ownB nhp0_3 ++ (ownB hp0_4 ++ L))))))) w' hp0_4 r.2.notes ∧ Sep [[ob0], [ob0_1], ownB hp0_1_0, [ob0_2], ownB hp0_2_0, ownB nhp0_3, ownB hp0_4] L ∧ (∀ x ∈ ownB nhp0_3, x ∈ (ob0 :: (ob0_1 :: (ownB hp0_1_0 ++ (ob0_2 :: (ownB hp0_2_0 ++ (ownB hp0_3 ++ (ownB hp0_4 ++ []))))))) ∨ w.heap.size ≤ x) ∧ (∀ b ∈ (ob0 :: (ob0_1 :: (ownB hp0_1_0 ++ (ob0_2 :: (ownB hp0_2_0 ++ (ownB nhp0_3 ++ (ownB hp0_4 ++ L))))))), b < w'.heap.size) ∧ G (ob0 :: (ob0_1 :: (ownB hp0_1_0 ++ (ob0_2 :: (ownB hp0_2_0 ++ (ownB hp0_3 ++ (ownB hp0_4 ++ []))))))) w w') := by
 refine enterF Try.func35 rfl rfl fun a0 z0 A => ?_
 have s0_0 := A 0 (ptr ob0 0) rfl
 have s0_1 := A 1 (.agg (TIns.C x1).toArray) rfl
 clear A
 have hLb : ∀ b ∈ L, b < w.heap.size := fun b h => hL b (.tail _ (.tail _ (List.mem_append_right _ (.tail _ (List.mem_append_right _ (List.mem_append_right _ (List.mem_append_right _ h)))))))
 have c0 : Cx (ob0 :: (ob0_1 :: (ownB hp0_1_0 ++ (ob0_2 :: (ownB hp0_2_0 ++ (ownB hp0_3 ++ (ownB hp0_4 ++ []))))))) w (ob0 :: (ob0_1 :: (ownB hp0_1_0 ++ (ob0_2 :: (ownB hp0_2_0 ++ (ownB hp0_3 ++ (ownB hp0_4 ++ L))))))) w := ⟨G.refl _ _, hL⟩
 unfold micro_machine_frames at h
 refine wp_seq ?_
 refine reg ?_
 refine lS (oBox (l := TIns.C x1) z0 s0_1 rfl rfl fun a1 w2 b3 p4 sp4 m5 g6 e7 => ?_)
 have f9 := c0.nw e7
 have cx8 := c0.al g6 m5
 refine s1 p4.z (okAs cst) rfl fun a10 p11 s12 => ?_
 refine rN (thenN ?_)
 refine wp_seq ?_
 refine regS mixed (by kernel_rfl) ?_
 have g13 := G.drew w2
 have cx14 := cx8.ca g13
 have s15 := p11.o (p4.o s0_0 rfl) rfl
 refine t1 p11.z (okMv s15) rfl fun a16 p17 s18 => ?_
 refine t1 p17.z (okNil s18) rfl fun a19 p20 s21 => ?_
 refine t1 p20.z (okFA (o' := 4) fo68_4 s21 rfl) rfl fun a22 p23 s24 => ?_
 have m25 := (mob0.g0 g6).g0 g13
 refine t1 p23.z (okLd (j := 4) na30 s24 (m25.cl) rfl rfl) rfl fun a26 p27 s28 => ?_
 have s29 := p27.o (p23.o (p20.o (p17.o s15 rfl) rfl) rfl) rfl
 refine t1 p27.z (okMv s29) rfl fun a30 p31 s32 => ?_
 refine t1 p31.z (okNil s32) rfl fun a33 p34 s35 => ?_
 refine t1 p34.z (okFA (o' := 4) fo68_4 s35 rfl) rfl fun a36 p37 s38 => ?_
 refine t1 p37.z (okLd (j := 4) na30 s38 (m25.cl) rfl rfl) rfl fun a39 p40 s41 => ?_
 have q42 := (qhp0_3.t0 (g6.tA (Nat.le_of_eq e7.symm)) g6).t0 g13.t0 g13
 refine t1 p40.z (okLenO (E2 := 66) Try.underlying30 s41 q42) rfl fun a43 p44 s45 => ?_
 refine t1 p44.z (okSub s45 cst) rfl fun a46 p47 s48 => ?_
 have s49 := p47.o (p44.o (p40.o (p37.o (p34.o (p31.o s28 rfl) rfl) rfl) rfl) rfl) rfl
 obtain ⟨y50, hy51, h⟩ := Option.bind_eq_some_iff.1 h
 obtain ⟨b52, cs54, r56, e57, nb58, k55⟩ := q42.at_ hy51
 obtain rfl := r56
 refine t1 p47.z (k55 Try.underlying30 Try.sizeOf66 s49 s48 _) rfl fun a59 p60 s61 => ?_
 refine t1 p60.z (okAs s61) rfl fun a62 p63 s64 => ?_
 refine tN (thenN ?_)
 refine wp_seq ?_
 refine wp_seq ?_
 refine reg ?_
 have s65 := p63.o (p60.o (p47.o (p44.o (p40.o (p37.o (p34.o (p31.o (p27.o (p23.o (p20.o (p17.o (p11.o sp4 rfl) rfl) rfl) rfl) rfl) rfl) rfl) rfl) rfl) rfl) rfl) rfl) rfl
 refine s1 p63.z (okFA (o' := 0) fo40_0 s65 rfl) rfl fun a66 p67 s68 => ?_
 have m69 := m5.g0 g13
 refine s1 p67.z (okLd (j := 0) na3 s68 (m69.cl) rfl rfl) rfl fun a70 p71 s72 => ?_
 refine s1 p71.z (okEq s72 cst) rfl fun a73 p74 s75 => ?_
 refine rN (thenN ?_)
 have s76 := p74.o (p71.o (p67.o (p63.o (p60.o (p47.o (p44.o (p40.o (p37.o (p34.o (p31.o s29 rfl) rfl) rfl) rfl) rfl) rfl) rfl) rfl) rfl) rfl) rfl
 have s77 := p74.o (p71.o (p67.o s65 rfl) rfl) rfl
 have s78 := p74.o (p71.o (p67.o (p63.o (p60.o (p47.o (p44.o (p40.o (p37.o (p34.o (p31.o (p27.o (p23.o (p20.o (p17.o s12 rfl) rfl) rfl) rfl) rfl) rfl) rfl) rfl) rfl) rfl) rfl) rfl) rfl) rfl) rfl
 have s79 := p74.o (p71.o (p67.o s64 rfl) rfl) rfl
 have pg80 : Pg _ [3, 4, 5, 7, 8, 9, 10, 11, 12, 13, 14, 15, 16, 17, 18, 19, 20] _ _ := ((((((((((((((((((Pg.refl z0).st p4 rfl).st p11 rfl).st p17 rfl).st p20 rfl).st p23 rfl).st p27 rfl).st p31 rfl).st p34 rfl).st p37 rfl).st p40 rfl).st p44 rfl).st p47 rfl).st p60 rfl).st p63 rfl).st p67 rfl).st p71 rfl).st p74 rfl)
 refine cnd s75 (fun hb81 => ?_) (fun hb81 => ?_)
 ·replace h := (ifP hb81).symm.trans h
  refine wp_seq ?_
  refine wp_seq ?_
  refine reg ?_
  refine s1 pg80.z (okMv s76) rfl fun a82 p83 s84 => ?_
  refine s1 p83.z (okNil s84) rfl fun a85 p86 s87 => ?_
  refine s1 p86.z (okFA (o' := 4) fo68_4 s87 rfl) rfl fun a88 p89 s90 => ?_
  refine s1 p89.z (okLd (j := 4) na30 s90 (m25.cl) rfl rfl) rfl fun a91 p92 s93 => ?_
  refine s1 p92.z (okLenO (E2 := 66) Try.underlying30 s93 q42) rfl fun a94 p95 s96 => ?_
  refine s1 p95.z (okGe s96 cst) rfl fun a97 p98 s99 => ?_
  refine rN (thenN ?_)
  have pg100 : Pg _ [21, 22, 23, 24, 25, 26] _ _ := (((((((Pg.refl pg80.z).st p83 rfl).st p86 rfl).st p89 rfl).st p92 rfl).st p95 rfl).st p98 rfl)
  refine cnd s99 (fun hb101 => ?_) (fun hb101 => ?_)
  ·replace h := (ifP hb101).symm.trans h
   refine wp_seq ?_
   refine reg ?_
   refine s1 pg100.z (okAs cst) rfl fun a102 p103 s104 => ?_
   refine rN (thenN ?_)
   obtain rfl := Option.some.inj h
   have q105 := qhp0_0.mono ((g6.tA (Nat.le_of_eq e7.symm)).trans g13.t0)
   have m106 := (mob0_1.g0 g6).g0 g13
   have q107 := (qhp0_1_0.t0 (g6.tA (Nat.le_of_eq e7.symm)) g6).t0 g13.t0 g13
   have m108 := (mob0_2.g0 g6).g0 g13
   have q109 := (qhp0_2_0.t0 (g6.tA (Nat.le_of_eq e7.symm)) g6).t0 g13.t0 g13
   have q110 := (qhp0_4.t0 (g6.tA (Nat.le_of_eq e7.symm)) g6).t0 g13.t0 g13
   exact wp_ret (thenR (thenR (ret1 p103.z Try.results35 (rvT s104) ⟨_, rfl, hp0_3, rfl, m25, (q105.mono ((Tr.refl _ _).sub (fun i h => (.tail _ h)))), m106, (q107.sub (fun i h => (.tail _ h))), m108, (q109.sub (fun i h => (.tail _ h))), (q42.sub (fun i h => (.tail _ h))), (q110.sub (fun i h => (.tail _ h))), (sepC (show ∀ x ∈ [ob0], x ∉ (ob0_1 :: (ownB hp0_1_0 ++ (ob0_2 :: (ownB hp0_2_0 ++ (ownB hp0_3 ++ (ownB hp0_4 ++ L)))))) from (in1 (nc (D.bb (i := 0) (j := 1) rfl rfl rfl) (na (D.bo (i := 0) (j := 2) rfl rfl rfl) (nc (D.bb (i := 0) (j := 3) rfl rfl rfl) (na (D.bo (i := 0) (j := 4) rfl rfl rfl) (na (D.bo (i := 0) (j := 5) rfl rfl rfl) (na (D.bo (i := 0) (j := 6) rfl rfl rfl) (D.bl (i := 0) rfl))))))))) (sepC (show ∀ x ∈ [ob0_1], x ∉ (ownB hp0_1_0 ++ (ob0_2 :: (ownB hp0_2_0 ++ (ownB hp0_3 ++ (ownB hp0_4 ++ L))))) from (in1 (na (D.bo (i := 1) (j := 2) rfl rfl rfl) (nc (D.bb (i := 1) (j := 3) rfl rfl rfl) (na (D.bo (i := 1) (j := 4) rfl rfl rfl) (na (D.bo (i := 1) (j := 5) rfl rfl rfl) (na (D.bo (i := 1) (j := 6) rfl rfl rfl) (D.bl (i := 1) rfl)))))))) (sepC (show ∀ x ∈ ownB hp0_1_0, x ∉ (ob0_2 :: (ownB hp0_2_0 ++ (ownB hp0_3 ++ (ownB hp0_4 ++ L)))) from (fun x hx => (nc (nbo (D.ob (i := 2) (j := 3) rfl rfl rfl) hx) (na ((D.dj (i := 2) (j := 4) rfl rfl rfl) x hx) (na ((D.dj (i := 2) (j := 5) rfl rfl rfl) x hx) (na ((D.dj (i := 2) (j := 6) rfl rfl rfl) x hx) ((D.dl (i := 2) rfl) x hx))))))) (sepC (show ∀ x ∈ [ob0_2], x ∉ (ownB hp0_2_0 ++ (ownB hp0_3 ++ (ownB hp0_4 ++ L))) from (in1 (na (D.bo (i := 3) (j := 4) rfl rfl rfl) (na (D.bo (i := 3) (j := 5) rfl rfl rfl) (na (D.bo (i := 3) (j := 6) rfl rfl rfl) (D.bl (i := 3) rfl)))))) (sepC (show ∀ x ∈ ownB hp0_2_0, x ∉ (ownB hp0_3 ++ (ownB hp0_4 ++ L)) from (fun x hx => (na ((D.dj (i := 4) (j := 5) rfl rfl rfl) x hx) (na ((D.dj (i := 4) (j := 6) rfl rfl rfl) x hx) ((D.dl (i := 4) rfl) x hx))))) (sepC (show ∀ x ∈ ownB hp0_3, x ∉ (ownB hp0_4 ++ L) from (fun x hx => (na ((D.dj (i := 5) (j := 6) rfl rfl rfl) x hx) ((D.dl (i := 5) rfl) x hx)))) (sepC (show ∀ x ∈ ownB hp0_4, x ∉ L from (fun x hx => ((D.dl (i := 6) rfl) x hx))) sepN))))))), (fun _ h => .inl (.tail _ (.tail _ (List.mem_append_right _ (.tail _ (List.mem_append_right _ (List.mem_append_left _ h))))))), (show ∀ b ∈ (ob0 :: (ob0_1 :: (ownB hp0_1_0 ++ (ob0_2 :: (ownB hp0_2_0 ++ (ownB hp0_3 ++ (ownB hp0_4 ++ L))))))), b < w2.drew.heap.size from (fun i h => cx14.lt i (.tail _ h))), cx14.g⟩)))
  replace h := (ifN hb101).symm.trans h
  refine wp_skip (thenN ?_)
  refine wp_seq ?_
  refine reg ?_
  have s111 := pg100.o s79 rfl
  refine s1 pg100.z (okMv s111) rfl fun a112 p113 s114 => ?_
  refine s1 p113.z (okNil s114) rfl fun a115 p116 s117 => ?_
  refine s1 p116.z (okFA (o' := (w64 ((x0.l.length : Int) - 1)).toNat * 17) fo66_0 s117 rfl) rfl fun a118 p119 s120 => ?_
  refine s1 p119.z (okLd (j := 0) na3 s120 e57 rfl rfl) rfl fun a121 p122 s123 => ?_
  refine s1 p122.z (okAdd s123 cst) rfl fun a124 p125 s126 => ?_
  have s127 := p125.o (p122.o (p119.o (p116.o s114 rfl) rfl) rfl) rfl
  refine s1 p125.z (okNil s127) rfl fun a128 p129 s130 => ?_
  refine s1 p129.z (okFA (o' := (w64 ((x0.l.length : Int) - 1)).toNat * 17) fo66_0 s130 rfl) rfl fun a131 p132 s133 => ?_
  have s134 := p132.o (p129.o s126 rfl) rfl
  have m138 := (mob0_1.g0 g6).g0 g13
  have m139 := (mob0_2.g0 g6).g0 g13
  refine lS (oStoE (K := KTFrame) (e' := ({ y50 with at_ := w64 (y50.at_ + 1) })) (vs := [.int .i64 (w64 (y50.at_ + 1))]) (j := 0) p132.z s133 s134 q42 hy51 nb58 e57 (fun _ h => (.tail _ (.tail _ (.tail _ (List.mem_append_right _ (.tail _ (List.mem_append_right _ (List.mem_append_left _ h)))))))) rfl Try.sizeOf3 rfl one1 rfl rfl rfl rfl fun w135 q136 g137 => ?_)
  have cx140 := cx14.cs g137 (fun _ h => .inl (.tail _ (.tail _ (List.mem_append_right _ (.tail _ (List.mem_append_right _ (List.mem_append_left _ h)))))))
  refine rN (thenN ?_)
  refine wp_seq ?_
  have q141 := qhp0_0.mono (((g6.tA (Nat.le_of_eq e7.symm)).trans g13.t0).trans (g137.t (fun _ h => (.tail _ (.tail _ (.tail _ (List.mem_append_right _ (.tail _ (List.mem_append_right _ (List.mem_append_left _ h))))))))))
  have q142 := ((qhp0_1_0.t0 (g6.tA (Nat.le_of_eq e7.symm)) g6).t0 g13.t0 g13).tr (g137.t (fun _ h => (.tail _ (.tail _ (.tail _ (List.mem_append_right _ (.tail _ (List.mem_append_right _ (List.mem_append_left _ h))))))))) g137 (D.dj (i := 2) (j := 5) rfl rfl rfl)
  have q143 := ((qhp0_2_0.t0 (g6.tA (Nat.le_of_eq e7.symm)) g6).t0 g13.t0 g13).tr (g137.t (fun _ h => (.tail _ (.tail _ (.tail _ (List.mem_append_right _ (.tail _ (List.mem_append_right _ (List.mem_append_left _ h))))))))) g137 (D.dj (i := 4) (j := 5) rfl rfl rfl)
  have q144 := ((qhp0_4.t0 (g6.tA (Nat.le_of_eq e7.symm)) g6).t0 g13.t0 g13).tr (g137.t (fun _ h => (.tail _ (.tail _ (.tail _ (List.mem_append_right _ (.tail _ (List.mem_append_right _ (List.mem_append_left _ h))))))))) g137 (djs (D.dj (i := 5) (j := 6) rfl rfl rfl))
  obtain ⟨z216, hz217, h⟩ := Option.bind_eq_some_iff.1 h
  have s259 := p132.o (p129.o (p125.o (p122.o (p119.o (p116.o (p113.o (pg100.o s76 rfl) rfl) rfl) rfl) rfl) rfl) rfl) rfl
  have s260 := p132.o (p129.o (p125.o (p122.o (p119.o (p116.o (p113.o (pg100.o s78 rfl) rfl) rfl) rfl) rfl) rfl) rfl) rfl
  have s261 := p132.o (p129.o (p125.o (p122.o (p119.o (p116.o (p113.o s111 rfl) rfl) rfl) rfl) rfl) rfl) rfl
  have m262 := m25.g g137 (D.bo (i := 0) (j := 5) rfl rfl rfl)
  have m263 := m138.g g137 (D.bo (i := 1) (j := 5) rfl rfl rfl)
  have m264 := m139.g g137 (D.bo (i := 3) (j := 5) rfl rfl rfl)
  have m265 := m69.g g137 (qhp0_3.nb e7)
  refine regJ (fun a' w' => ∃ v227, Z Try.f35.ntmps a' ∧ a'.eval (.tmp 0) = ptr ob0 0 ∧ a'.eval (.tmp 4) = .bool false ∧ a'.eval (.tmp 5) = ptr b52 ((w64 ((x0.l.length : Int) - 1)).toNat * 17) ∧ Bk w' ob0 (Tmicro_machine.C ({ x0 with a := default, t := default, l := z216 }) hp0_0 (ptr ob0_1 0) (ptr ob0_2 0) v227 hp0_4) 68 ∧ Bk w' ob0_1 (Tcell_Arena.C x0.a hp0_1_0) 72 ∧ Bk w' ob0_2 (Tpermit_Table.C x0.t hp0_2_0) 78 ∧ Bk w' b3 (TIns.C x1) 40 ∧ OwnS KTFrame 66 (ownB v227 ++ (b3 :: (ob0 :: (ob0_1 :: (ownB hp0_1_0 ++ (ob0_2 :: (ownB hp0_2_0 ++ (ownB hp0_4 ++ L)))))))) w' v227 z216 ∧ OwnS (KInt .i64) 2 (ownB v227 ++ (b3 :: (ob0 :: (ob0_1 :: (ownB hp0_1_0 ++ (ob0_2 :: (ownB hp0_2_0 ++ (ownB hp0_4 ++ L)))))))) w' hp0_1_0 x0.a.l ∧ OwnS KTPark 59 (ownB v227 ++ (b3 :: (ob0 :: (ob0_1 :: (ownB hp0_1_0 ++ (ob0_2 :: (ownB hp0_2_0 ++ (ownB hp0_4 ++ L)))))))) w' hp0_2_0 x0.t.l ∧ OwnS KTNote 80 (ownB v227 ++ (b3 :: (ob0 :: (ob0_1 :: (ownB hp0_1_0 ++ (ob0_2 :: (ownB hp0_2_0 ++ (ownB hp0_4 ++ L)))))))) w' hp0_4 x0.notes ∧ Cx (ob0 :: (ob0_1 :: (ownB hp0_1_0 ++ (ob0_2 :: (ownB hp0_2_0 ++ (ownB hp0_3 ++ (ownB hp0_4 ++ []))))))) w (ownB v227 ++ (b3 :: (ob0 :: (ob0_1 :: (ownB hp0_1_0 ++ (ob0_2 :: (ownB hp0_2_0 ++ (ownB hp0_4 ++ L)))))))) w' ∧ Tr (b3 :: (ob0 :: (ob0_1 :: (ownB hp0_1_0 ++ (ob0_2 :: (ownB hp0_2_0 ++ (ownB hp0_3 ++ (ownB hp0_4 ++ L)))))))) w135 (ownB v227 ++ (b3 :: (ob0 :: (ob0_1 :: (ownB hp0_1_0 ++ (ob0_2 :: (ownB hp0_2_0 ++ (ownB hp0_4 ++ L)))))))) w' ∧ (∀ x ∈ ownB v227, x ∉ L) ∧ (∀ x ∈ ownB v227, x ∈ (ob0 :: (ob0_1 :: (ownB hp0_1_0 ++ (ob0_2 :: (ownB hp0_2_0 ++ (ownB hp0_3 ++ (ownB hp0_4 ++ []))))))) ∨ w.heap.size ≤ x) ∧ ob0 ∉ ownB v227 ∧ ob0_1 ∉ ownB v227 ∧ ob0_2 ∉ ownB v227 ∧ b3 ∉ ownB v227 ∧ (∀ x ∈ ownB hp0_1_0, x ∉ ownB v227) ∧ (∀ x ∈ ownB hp0_2_0, x ∉ ownB v227) ∧ (∀ x ∈ ownB hp0_4, x ∉ ownB v227)) ?_ ?_
  ·refine regH (n := 17) [(4, fun w' => Cl w' ob0 4 [hp0_3]), (6, fun w' => Cl w' b3 4 [.int .i64 x1.n]), (10, fun w' => Cl w' b52 ((w64 ((x0.l.length : Int) - 1)).toNat * 17 + 1) (Arr16.C y50.r))] mixed rfl ?_
   have g266 := G.drew w135
   have cx267 := cx140.ca g266
   refine hTakeW (i := 0) rfl (by kernel_rfl) (by kernel_rfl) (by kernel_rfl) nrm (cond := fun _ => True) (.inl fun _ => trivial) p132.z (wN rfl) (fun _ _ => okMv s259) trivial rfl fun a268 p269 sp269 => ?_
   have s270 := p269.o s259 rfl
   refine hTakeW (i := 1) rfl (by kernel_rfl) (by kernel_rfl) (by kernel_rfl) nrm (cond := fun _ => True) (.inl fun _ => trivial) p269.z (wN rfl) (fun _ _ => okMv s270) trivial rfl fun a271 p272 sp272 => ?_
   refine hTakeW (i := 2) rfl (by kernel_rfl) (by kernel_rfl) (by kernel_rfl) nrm (cond := fun _ => True) (.inl fun _ => trivial) p272.z (wN rfl) (fun _ _ => okNil sp272) trivial rfl fun a273 p274 sp274 => ?_
   refine hTakeW (i := 3) rfl (by kernel_rfl) (by kernel_rfl) (by kernel_rfl) nrm (cond := fun _ => True) (.inl fun _ => trivial) p274.z (wN rfl) (fun _ _ => okFA (o' := 4) fo68_4 sp274 rfl) trivial rfl fun a275 p276 sp276 => ?_
   have m277 := m262.g0 g266
   refine hTakeW (i := 4) rfl (by kernel_rfl) (by kernel_rfl) (by kernel_rfl) nrm (.inr (.head _)) p276.z (wN rfl) (fun _ h => okLd (j := 0) na30 sp276 h rfl rfl) (m277.clp rfl) rfl fun a278 p279 sp279 => ?_
   have s280 := p279.o (p276.o (p274.o (p272.o (p269.o (p132.o (p129.o (p125.o (p122.o (p119.o (p116.o (p113.o (pg100.o s77 rfl) rfl) rfl) rfl) rfl) rfl) rfl) rfl) rfl) rfl) rfl) rfl) rfl
   refine hTakeW (i := 5) rfl (by kernel_rfl) (by kernel_rfl) (by kernel_rfl) nrm (cond := fun _ => True) (.inl fun _ => trivial) p279.z (wN rfl) (fun _ _ => okFA (o' := 4) fo40_4 s280 rfl) trivial rfl fun a281 p282 sp282 => ?_
   have m283 := m265.g0 g266
   refine hTakeW (i := 6) rfl (by kernel_rfl) (by kernel_rfl) (by kernel_rfl) nrm (.inr (.tail _ (.head _))) p282.z (wN rfl) (fun _ h => okLd (j := 0) na2 sp282 h rfl rfl) (m283.clp rfl) rfl fun a284 p285 sp285 => ?_
   have s286 := p285.o (p282.o (p279.o (p276.o (p274.o (p272.o (p269.o s261 rfl) rfl) rfl) rfl) rfl) rfl) rfl
   refine hTakeW (i := 7) rfl (by kernel_rfl) (by kernel_rfl) (by kernel_rfl) nrm (cond := fun _ => True) (.inl fun _ => trivial) p285.z (wN rfl) (fun _ _ => okMv s286) trivial rfl fun a287 p288 sp288 => ?_
   refine hTakeW (i := 8) rfl (by kernel_rfl) (by kernel_rfl) (by kernel_rfl) nrm (cond := fun _ => True) (.inl fun _ => trivial) p288.z (wN rfl) (fun _ _ => okNil sp288) trivial rfl fun a289 p290 sp290 => ?_
   refine hTakeW (i := 9) rfl (by kernel_rfl) (by kernel_rfl) (by kernel_rfl) nrm (cond := fun _ => True) (.inl fun _ => trivial) p290.z (wN rfl) (fun _ _ => okFA (o' := (w64 ((x0.l.length : Int) - 1)).toNat * 17 + 1) fo66_1 sp290 rfl) trivial rfl fun a291 p292 sp292 => ?_
   have q293 := q136.t0 g266.t0 g266
   obtain ⟨b294, cs295, r296, e297, nb298, k299⟩ := q293.at_ (ix_set hy51)
   obtain rfl : b52 = b294 := own1 nb58 nb298
   obtain rfl := r296
   refine hTakeW (i := 10) rfl (by kernel_rfl) (by kernel_rfl) (by kernel_rfl) nrm (.inr (.tail _ (.tail _ (.head _)))) p292.z (wN rfl) (fun _ h => okLdA ag64 sp292 h rfl rfl whole) (clp e297 rfl) rfl fun a300 p301 sp301 => ?_
   have s302 := p301.o (p292.o (p290.o (p288.o sp285 rfl) rfl) rfl) rfl
   refine hTakeW (i := 11) rfl (by kernel_rfl) (by kernel_rfl) (by kernel_rfl) nrm (cond := fun _ => True) (.inl fun _ => trivial) p301.z (wN rfl) (fun _ _ => okBd (pb2 s302 sp301) (bd66_0_1 x1.n y50.r _)) trivial rfl fun a303 p304 sp304 => ?_
   have m312 := m263.g0 g266
   have m313 := m264.g0 g266
   have q314 := q142.t0 g266.t0 g266
   have q315 := q143.t0 g266.t0 g266
   have q316 := q144.t0 g266.t0 g266
   refine hOne (i := 12) (by kernel_rfl) rfl (oBS (K := KTFrame) (L := (b3 :: (ob0 :: (ob0_1 :: (ownB hp0_1_0 ++ (ob0_2 :: (ownB hp0_2_0 ++ (ownB hp0_3 ++ (ownB hp0_4 ++ L))))))))) (xs := [{ y50 with at_ := x1.n }]) (C := [TFrame.C ({ y50 with at_ := x1.n })]) p304.z (pb1 sp304) (bs30_1_0 ({ y50 with at_ := x1.n })) rfl rfl (all2C rfl all2N) rfl rfl fun a305 v306 w307 p308 sp308 q309 g310 f311 => ?_)
   have f317 := frN f311
   have nb318 := nbA hLb cx267.g.sz (fun _ h => nilO h) f317
   have sf319 := sfA (S := (ob0 :: (ob0_1 :: (ownB hp0_1_0 ++ (ob0_2 :: (ownB hp0_2_0 ++ (ownB hp0_3 ++ (ownB hp0_4 ++ [])))))))) cx267.g.sz (fun _ h => nilO h) f317
   have n320 := m277.no (fun h => nilO h) f317
   have n321 := m312.no (fun h => nilO h) f317
   have n322 := m313.no (fun h => nilO h) f317
   have n323 := m283.no (fun h => nilO h) f317
   have n324 := q314.dj (fun _ _ h => nilO h) f317
   have n325 := q315.dj (fun _ _ h => nilO h) f317
   have n326 := q293.dj (fun _ _ h => nilO h) f317
   have n327 := q316.dj (fun _ _ h => nilO h) f317
   have cx328 := cx267.ap g310 (fun _ h => nilO h) q309
   refine ⟨⟨.inr fun h => h.g0 g310, .inl (by kernel_rfl), .inl (by kernel_rfl), trivial⟩, ?_⟩
   have s329 := p308.o (p304.o (p301.o (p292.o (p290.o (p288.o (p285.o (p282.o sp279 rfl) rfl) rfl) rfl) rfl) rfl) rfl) rfl
   have q330 := q293.t0 (tAp g310 (fun _ h => nilO h) f317) g310
   have m331 := m277.g0 g310
   have m332 := m312.g0 g310
   have m333 := m313.g0 g310
   have m334 := m283.g0 g310
   have q335 := q314.t0 (tAp g310 (fun _ h => nilO h) f317) g310
   have q336 := q315.t0 (tAp g310 (fun _ h => nilO h) f317) g310
   have q337 := q316.t0 (tAp g310 (fun _ h => nilO h) f317) g310
   refine hOne (i := 13) (by kernel_rfl) rfl (oApp (K := KTFrame) (L := (ownB v306 ++ (b3 :: (ob0 :: (ob0_1 :: (ownB hp0_1_0 ++ (ob0_2 :: (ownB hp0_2_0 ++ (ownB hp0_3 ++ (ownB hp0_4 ++ L)))))))))) Try.underlying30 ti66 rfl p308.z s329 sp308 q330 q309.src hz217 (fun _ h => (List.mem_append_right _ (.tail _ (.tail _ (.tail _ (List.mem_append_right _ (.tail _ (List.mem_append_right _ (List.mem_append_left _ h))))))))) rfl fun a338 v339 w340 p341 sp341 q342 g343 f344 => ?_)
   have nb345 := nbA hLb cx328.g.sz (D.dl (i := 5) rfl) f344
   have sf346 := sfA (S := (ob0 :: (ob0_1 :: (ownB hp0_1_0 ++ (ob0_2 :: (ownB hp0_2_0 ++ (ownB hp0_3 ++ (ownB hp0_4 ++ [])))))))) cx328.g.sz (fun _ h => .inl (.tail _ (.tail _ (List.mem_append_right _ (.tail _ (List.mem_append_right _ (List.mem_append_left _ h))))))) f344
   have n347 := m331.no (D.bo (i := 0) (j := 5) rfl rfl rfl) f344
   have n348 := m332.no (D.bo (i := 1) (j := 5) rfl rfl rfl) f344
   have n349 := m333.no (D.bo (i := 3) (j := 5) rfl rfl rfl) f344
   have n350 := m334.no (qhp0_3.nb e7) f344
   have n351 := q335.dj (D.dj (i := 2) (j := 5) rfl rfl rfl) f344
   have n352 := q336.dj (D.dj (i := 4) (j := 5) rfl rfl rfl) f344
   have n353 := q337.dj (djs (D.dj (i := 5) (j := 6) rfl rfl rfl)) f344
   have n354 := q309.dj (djs n326) f344
   have cx355 := cx328.ap g343 (fun _ h => .inl (.tail _ (.tail _ (List.mem_append_right _ (.tail _ (List.mem_append_right _ (List.mem_append_left _ h))))))) q342
   have cx356 := cx355.sub (fun i h => (List.mem_append.1 h).elim (fun h => (List.mem_append_left _ h)) (fun h => (List.mem_append.1 h).elim (fun h => (List.mem_append_right _ (List.mem_append_left _ h))) (fun h => (List.mem_cons.1 h).elim (fun e => e ▸ (List.mem_append_right _ (List.mem_append_right _ (.head _)))) (fun h => (List.mem_cons.1 h).elim (fun e => e ▸ (List.mem_append_right _ (List.mem_append_right _ (.tail _ (.head _))))) (fun h => (List.mem_cons.1 h).elim (fun e => e ▸ (List.mem_append_right _ (List.mem_append_right _ (.tail _ (.tail _ (.head _)))))) (fun h => (List.mem_append.1 h).elim (fun h => (List.mem_append_right _ (List.mem_append_right _ (.tail _ (.tail _ (.tail _ (List.mem_append_left _ h))))))) (fun h => (List.mem_cons.1 h).elim (fun e => e ▸ (List.mem_append_right _ (List.mem_append_right _ (.tail _ (.tail _ (.tail _ (List.mem_append_right _ (.head _)))))))) (fun h => (List.mem_append.1 h).elim (fun h => (List.mem_append_right _ (List.mem_append_right _ (.tail _ (.tail _ (.tail _ (List.mem_append_right _ (.tail _ (List.mem_append_left _ h))))))))) (fun h => (List.mem_append_right _ (List.mem_append_right _ (.tail _ (.tail _ (.tail _ (List.mem_append_right _ (.tail _ (List.mem_append_right _ (List.mem_append_right _ h))))))))))))))))))
   have q357 := q342.sub (fun i h => (List.mem_append.1 h).elim (fun h => (List.mem_append_left _ h)) (fun h => (List.mem_append.1 h).elim (fun h => (List.mem_append_right _ (List.mem_append_left _ h))) (fun h => (List.mem_cons.1 h).elim (fun e => e ▸ (List.mem_append_right _ (List.mem_append_right _ (.head _)))) (fun h => (List.mem_cons.1 h).elim (fun e => e ▸ (List.mem_append_right _ (List.mem_append_right _ (.tail _ (.head _))))) (fun h => (List.mem_cons.1 h).elim (fun e => e ▸ (List.mem_append_right _ (List.mem_append_right _ (.tail _ (.tail _ (.head _)))))) (fun h => (List.mem_append.1 h).elim (fun h => (List.mem_append_right _ (List.mem_append_right _ (.tail _ (.tail _ (.tail _ (List.mem_append_left _ h))))))) (fun h => (List.mem_cons.1 h).elim (fun e => e ▸ (List.mem_append_right _ (List.mem_append_right _ (.tail _ (.tail _ (.tail _ (List.mem_append_right _ (.head _)))))))) (fun h => (List.mem_append.1 h).elim (fun h => (List.mem_append_right _ (List.mem_append_right _ (.tail _ (.tail _ (.tail _ (List.mem_append_right _ (.tail _ (List.mem_append_left _ h))))))))) (fun h => (List.mem_append_right _ (List.mem_append_right _ (.tail _ (.tail _ (.tail _ (List.mem_append_right _ (.tail _ (List.mem_append_right _ (List.mem_append_right _ h))))))))))))))))))
   refine ⟨⟨.inl (by kernel_rfl), .inl (by kernel_rfl), .inl (by kernel_rfl), trivial⟩, ?_⟩
   have s358 := p341.o (p308.o (p304.o (p301.o (p292.o (p290.o (p288.o (p285.o (p282.o (p279.o (p276.o (p274.o (p272.o sp269 rfl) rfl) rfl) rfl) rfl) rfl) rfl) rfl) rfl) rfl) rfl) rfl) rfl
   refine hTakeW (i := 14) rfl (by kernel_rfl) (by kernel_rfl) (by kernel_rfl) nrm (cond := fun _ => True) (.inl fun _ => trivial) p341.z (wN rfl) (fun _ _ => okNil s358) trivial rfl fun a359 p360 sp360 => ?_
   refine hTakeW (i := 15) rfl (by kernel_rfl) (by kernel_rfl) (by kernel_rfl) nrm (cond := fun _ => True) (.inl fun _ => trivial) p360.z (wN rfl) (fun _ _ => okFA (o' := 4) fo68_4 sp360 rfl) trivial rfl fun a361 p362 sp362 => ?_
   have s363 := p362.o (p360.o sp341 rfl) rfl
   have m364 := m331.g g343 (D.bo (i := 0) (j := 5) rfl rfl rfl)
   refine hOne (i := 16) (by kernel_rfl) rfl (oSto (cs := [v339]) (l' := Tmicro_machine.C ({ x0 with a := default, t := default, l := z216 }) hp0_0 (ptr ob0_1 0) (ptr ob0_2 0) v339 hp0_4) p362.z sp362 s363 m364 Try.sizeOf30 q357.cells (oneS q357.one) rfl rfl fun w365 m366 g367 => ?_)
   have cx368 := cx356.sS g367 (.head _)
   refine ⟨⟨.inl (by kernel_rfl), .inl (by kernel_rfl), .inl (by kernel_rfl), trivial⟩, ?_⟩
   have q369 := q357.t1 (g367.t1 (List.mem_append_right _ (List.mem_append_right _ (.tail _ (.head _))))) g367 n347
   have q370 := (q335.tr (Tr.sub (tAp g343 (fun _ h => (List.mem_append_right _ (.tail _ (.tail _ (.tail _ (List.mem_append_right _ (.tail _ (List.mem_append_right _ (List.mem_append_left _ h))))))))) f344) (fun i h => (List.mem_append.1 h).elim (fun h => (List.mem_append_left _ h)) (fun h => (List.mem_append.1 h).elim (fun h => (List.mem_append_right _ (List.mem_append_left _ h))) (fun h => (List.mem_cons.1 h).elim (fun e => e ▸ (List.mem_append_right _ (List.mem_append_right _ (.head _)))) (fun h => (List.mem_cons.1 h).elim (fun e => e ▸ (List.mem_append_right _ (List.mem_append_right _ (.tail _ (.head _))))) (fun h => (List.mem_cons.1 h).elim (fun e => e ▸ (List.mem_append_right _ (List.mem_append_right _ (.tail _ (.tail _ (.head _)))))) (fun h => (List.mem_append.1 h).elim (fun h => (List.mem_append_right _ (List.mem_append_right _ (.tail _ (.tail _ (.tail _ (List.mem_append_left _ h))))))) (fun h => (List.mem_cons.1 h).elim (fun e => e ▸ (List.mem_append_right _ (List.mem_append_right _ (.tail _ (.tail _ (.tail _ (List.mem_append_right _ (.head _)))))))) (fun h => (List.mem_append.1 h).elim (fun h => (List.mem_append_right _ (List.mem_append_right _ (.tail _ (.tail _ (.tail _ (List.mem_append_right _ (.tail _ (List.mem_append_left _ h))))))))) (fun h => (List.mem_append_right _ (List.mem_append_right _ (.tail _ (.tail _ (.tail _ (List.mem_append_right _ (.tail _ (List.mem_append_right _ (List.mem_append_right _ h))))))))))))))))))) g343 (D.dj (i := 2) (j := 5) rfl rfl rfl)).t1 (g367.t1 (List.mem_append_right _ (List.mem_append_right _ (.tail _ (.head _))))) g367 (D.bo (i := 0) (j := 2) rfl rfl rfl)
   have q371 := (q336.tr (Tr.sub (tAp g343 (fun _ h => (List.mem_append_right _ (.tail _ (.tail _ (.tail _ (List.mem_append_right _ (.tail _ (List.mem_append_right _ (List.mem_append_left _ h))))))))) f344) (fun i h => (List.mem_append.1 h).elim (fun h => (List.mem_append_left _ h)) (fun h => (List.mem_append.1 h).elim (fun h => (List.mem_append_right _ (List.mem_append_left _ h))) (fun h => (List.mem_cons.1 h).elim (fun e => e ▸ (List.mem_append_right _ (List.mem_append_right _ (.head _)))) (fun h => (List.mem_cons.1 h).elim (fun e => e ▸ (List.mem_append_right _ (List.mem_append_right _ (.tail _ (.head _))))) (fun h => (List.mem_cons.1 h).elim (fun e => e ▸ (List.mem_append_right _ (List.mem_append_right _ (.tail _ (.tail _ (.head _)))))) (fun h => (List.mem_append.1 h).elim (fun h => (List.mem_append_right _ (List.mem_append_right _ (.tail _ (.tail _ (.tail _ (List.mem_append_left _ h))))))) (fun h => (List.mem_cons.1 h).elim (fun e => e ▸ (List.mem_append_right _ (List.mem_append_right _ (.tail _ (.tail _ (.tail _ (List.mem_append_right _ (.head _)))))))) (fun h => (List.mem_append.1 h).elim (fun h => (List.mem_append_right _ (List.mem_append_right _ (.tail _ (.tail _ (.tail _ (List.mem_append_right _ (.tail _ (List.mem_append_left _ h))))))))) (fun h => (List.mem_append_right _ (List.mem_append_right _ (.tail _ (.tail _ (.tail _ (List.mem_append_right _ (.tail _ (List.mem_append_right _ (List.mem_append_right _ h))))))))))))))))))) g343 (D.dj (i := 4) (j := 5) rfl rfl rfl)).t1 (g367.t1 (List.mem_append_right _ (List.mem_append_right _ (.tail _ (.head _))))) g367 (D.bo (i := 0) (j := 4) rfl rfl rfl)
   have q372 := (q337.tr (Tr.sub (tAp g343 (fun _ h => (List.mem_append_right _ (.tail _ (.tail _ (.tail _ (List.mem_append_right _ (.tail _ (List.mem_append_right _ (List.mem_append_left _ h))))))))) f344) (fun i h => (List.mem_append.1 h).elim (fun h => (List.mem_append_left _ h)) (fun h => (List.mem_append.1 h).elim (fun h => (List.mem_append_right _ (List.mem_append_left _ h))) (fun h => (List.mem_cons.1 h).elim (fun e => e ▸ (List.mem_append_right _ (List.mem_append_right _ (.head _)))) (fun h => (List.mem_cons.1 h).elim (fun e => e ▸ (List.mem_append_right _ (List.mem_append_right _ (.tail _ (.head _))))) (fun h => (List.mem_cons.1 h).elim (fun e => e ▸ (List.mem_append_right _ (List.mem_append_right _ (.tail _ (.tail _ (.head _)))))) (fun h => (List.mem_append.1 h).elim (fun h => (List.mem_append_right _ (List.mem_append_right _ (.tail _ (.tail _ (.tail _ (List.mem_append_left _ h))))))) (fun h => (List.mem_cons.1 h).elim (fun e => e ▸ (List.mem_append_right _ (List.mem_append_right _ (.tail _ (.tail _ (.tail _ (List.mem_append_right _ (.head _)))))))) (fun h => (List.mem_append.1 h).elim (fun h => (List.mem_append_right _ (List.mem_append_right _ (.tail _ (.tail _ (.tail _ (List.mem_append_right _ (.tail _ (List.mem_append_left _ h))))))))) (fun h => (List.mem_append_right _ (List.mem_append_right _ (.tail _ (.tail _ (.tail _ (List.mem_append_right _ (.tail _ (List.mem_append_right _ (List.mem_append_right _ h))))))))))))))))))) g343 (djs (D.dj (i := 5) (j := 6) rfl rfl rfl))).t1 (g367.t1 (List.mem_append_right _ (List.mem_append_right _ (.tail _ (.head _))))) g367 (D.bo (i := 0) (j := 6) rfl rfl rfl)
   have s373 := p362.o (p360.o (p341.o (p308.o (p304.o (p301.o (p292.o (p290.o (p288.o (p285.o (p282.o (p279.o (p276.o (p274.o (p272.o s270 rfl) rfl) rfl) rfl) rfl) rfl) rfl) rfl) rfl) rfl) rfl) rfl) rfl) rfl) rfl
   have s374 := p362.o (p360.o (p341.o (p308.o (p304.o (p301.o (p292.o (p290.o (p288.o (p285.o (p282.o (p279.o (p276.o (p274.o (p272.o (p269.o s260 rfl) rfl) rfl) rfl) rfl) rfl) rfl) rfl) rfl) rfl) rfl) rfl) rfl) rfl) rfl) rfl
   have s375 := p362.o (p360.o (p341.o (p308.o (p304.o (p301.o (p292.o (p290.o (p288.o s286 rfl) rfl) rfl) rfl) rfl) rfl) rfl) rfl) rfl
   have m376 := (m332.g g343 (D.bo (i := 1) (j := 5) rfl rfl rfl)).g1 g367 (D.bb (i := 0) (j := 1) rfl rfl rfl).symm
   have m377 := (m333.g g343 (D.bo (i := 3) (j := 5) rfl rfl rfl)).g1 g367 (D.bb (i := 0) (j := 3) rfl rfl rfl).symm
   have m378 := (m334.g g343 (qhp0_3.nb e7)).g1 g367 (mob0.ne e7).symm
   exact hDone (by kernel_rfl) ⟨rfl, v339, p362.z, s373, s374, s375, m366, m376, m377, m378, (q369.sub (fun i h => (List.mem_append.1 h).elim (fun h => (List.mem_append_left _ h)) (fun h => (List.mem_append_right _ (List.mem_append_right _ h))))), (q370.sub (fun i h => (List.mem_append.1 h).elim (fun h => (List.mem_append_left _ h)) (fun h => (List.mem_append_right _ (List.mem_append_right _ h))))), (q371.sub (fun i h => (List.mem_append.1 h).elim (fun h => (List.mem_append_left _ h)) (fun h => (List.mem_append_right _ (List.mem_append_right _ h))))), (q372.sub (fun i h => (List.mem_append.1 h).elim (fun h => (List.mem_append_left _ h)) (fun h => (List.mem_append_right _ (List.mem_append_right _ h))))), (cx368.sub (fun i h => (List.mem_append.1 h).elim (fun h => (List.mem_append_left _ h)) (fun h => (List.mem_append_right _ (List.mem_append_right _ h))))), ((((g266.t0.trans (tAp g310 (fun _ h => nilO h) f317)).trans (Tr.sub (tAp g343 (fun _ h => (List.mem_append_right _ (.tail _ (.tail _ (.tail _ (List.mem_append_right _ (.tail _ (List.mem_append_right _ (List.mem_append_left _ h))))))))) f344) (fun i h => (List.mem_append.1 h).elim (fun h => (List.mem_append_left _ h)) (fun h => (List.mem_append.1 h).elim (fun h => (List.mem_append_right _ (List.mem_append_left _ h))) (fun h => (List.mem_cons.1 h).elim (fun e => e ▸ (List.mem_append_right _ (List.mem_append_right _ (.head _)))) (fun h => (List.mem_cons.1 h).elim (fun e => e ▸ (List.mem_append_right _ (List.mem_append_right _ (.tail _ (.head _))))) (fun h => (List.mem_cons.1 h).elim (fun e => e ▸ (List.mem_append_right _ (List.mem_append_right _ (.tail _ (.tail _ (.head _)))))) (fun h => (List.mem_append.1 h).elim (fun h => (List.mem_append_right _ (List.mem_append_right _ (.tail _ (.tail _ (.tail _ (List.mem_append_left _ h))))))) (fun h => (List.mem_cons.1 h).elim (fun e => e ▸ (List.mem_append_right _ (List.mem_append_right _ (.tail _ (.tail _ (.tail _ (List.mem_append_right _ (.head _)))))))) (fun h => (List.mem_append.1 h).elim (fun h => (List.mem_append_right _ (List.mem_append_right _ (.tail _ (.tail _ (.tail _ (List.mem_append_right _ (.tail _ (List.mem_append_left _ h))))))))) (fun h => (List.mem_append_right _ (List.mem_append_right _ (.tail _ (.tail _ (.tail _ (List.mem_append_right _ (.tail _ (List.mem_append_right _ (List.mem_append_right _ h)))))))))))))))))))).trans (g367.t1 (List.mem_append_right _ (List.mem_append_right _ (.tail _ (.head _)))))).sub (fun i h => (List.mem_append.1 h).elim (fun h => (List.mem_append_left _ h)) (fun h => (List.mem_append_right _ (List.mem_append_right _ h))))), nb345, sf346, n347, n348, n349, n350, n351, n352, n353⟩
  rintro a379 w380 ⟨h382, z381, s383, s384, s385, m386, m387, m388, m389, q390, q391, q392, q393, cx394, t395, n396, n397, n398, n399, n400, n401, n402, n403, n404⟩
  refine thenN ?_
  refine wp_seq ?_
  refine reg ?_
  refine s1 z381 (okAs cst) rfl fun a405 p406 s407 => ?_
  refine rN (thenN ?_)
  obtain rfl := Option.some.inj h
  have q408 := q141.mono t395
  exact wp_ret (thenR (ret1 p406.z Try.results35 (rvT s407) ⟨_, rfl, h382, rfl, m386, (q408.mono ((Tr.refl _ _).sub (fun i h => (List.mem_cons.1 h).elim (fun e => e ▸ (List.mem_append_right _ (.tail _ (.head _)))) (fun h => (List.mem_cons.1 h).elim (fun e => e ▸ (List.mem_append_right _ (.tail _ (.tail _ (.head _))))) (fun h => (List.mem_append.1 h).elim (fun h => (List.mem_append_right _ (.tail _ (.tail _ (.tail _ (List.mem_append_left _ h)))))) (fun h => (List.mem_cons.1 h).elim (fun e => e ▸ (List.mem_append_right _ (.tail _ (.tail _ (.tail _ (List.mem_append_right _ (.head _))))))) (fun h => (List.mem_append.1 h).elim (fun h => (List.mem_append_right _ (.tail _ (.tail _ (.tail _ (List.mem_append_right _ (.tail _ (List.mem_append_left _ h)))))))) (fun h => (List.mem_append.1 h).elim (fun h => (List.mem_append_left _ h)) (fun h => (List.mem_append_right _ (.tail _ (.tail _ (.tail _ (List.mem_append_right _ (.tail _ (List.mem_append_right _ h)))))))))))))))), m387, (q391.sub (fun i h => (List.mem_cons.1 h).elim (fun e => e ▸ (List.mem_append_right _ (.tail _ (.head _)))) (fun h => (List.mem_cons.1 h).elim (fun e => e ▸ (List.mem_append_right _ (.tail _ (.tail _ (.head _))))) (fun h => (List.mem_append.1 h).elim (fun h => (List.mem_append_right _ (.tail _ (.tail _ (.tail _ (List.mem_append_left _ h)))))) (fun h => (List.mem_cons.1 h).elim (fun e => e ▸ (List.mem_append_right _ (.tail _ (.tail _ (.tail _ (List.mem_append_right _ (.head _))))))) (fun h => (List.mem_append.1 h).elim (fun h => (List.mem_append_right _ (.tail _ (.tail _ (.tail _ (List.mem_append_right _ (.tail _ (List.mem_append_left _ h)))))))) (fun h => (List.mem_append.1 h).elim (fun h => (List.mem_append_left _ h)) (fun h => (List.mem_append_right _ (.tail _ (.tail _ (.tail _ (List.mem_append_right _ (.tail _ (List.mem_append_right _ h))))))))))))))), m388, (q392.sub (fun i h => (List.mem_cons.1 h).elim (fun e => e ▸ (List.mem_append_right _ (.tail _ (.head _)))) (fun h => (List.mem_cons.1 h).elim (fun e => e ▸ (List.mem_append_right _ (.tail _ (.tail _ (.head _))))) (fun h => (List.mem_append.1 h).elim (fun h => (List.mem_append_right _ (.tail _ (.tail _ (.tail _ (List.mem_append_left _ h)))))) (fun h => (List.mem_cons.1 h).elim (fun e => e ▸ (List.mem_append_right _ (.tail _ (.tail _ (.tail _ (List.mem_append_right _ (.head _))))))) (fun h => (List.mem_append.1 h).elim (fun h => (List.mem_append_right _ (.tail _ (.tail _ (.tail _ (List.mem_append_right _ (.tail _ (List.mem_append_left _ h)))))))) (fun h => (List.mem_append.1 h).elim (fun h => (List.mem_append_left _ h)) (fun h => (List.mem_append_right _ (.tail _ (.tail _ (.tail _ (List.mem_append_right _ (.tail _ (List.mem_append_right _ h))))))))))))))), (q390.sub (fun i h => (List.mem_cons.1 h).elim (fun e => e ▸ (List.mem_append_right _ (.tail _ (.head _)))) (fun h => (List.mem_cons.1 h).elim (fun e => e ▸ (List.mem_append_right _ (.tail _ (.tail _ (.head _))))) (fun h => (List.mem_append.1 h).elim (fun h => (List.mem_append_right _ (.tail _ (.tail _ (.tail _ (List.mem_append_left _ h)))))) (fun h => (List.mem_cons.1 h).elim (fun e => e ▸ (List.mem_append_right _ (.tail _ (.tail _ (.tail _ (List.mem_append_right _ (.head _))))))) (fun h => (List.mem_append.1 h).elim (fun h => (List.mem_append_right _ (.tail _ (.tail _ (.tail _ (List.mem_append_right _ (.tail _ (List.mem_append_left _ h)))))))) (fun h => (List.mem_append.1 h).elim (fun h => (List.mem_append_left _ h)) (fun h => (List.mem_append_right _ (.tail _ (.tail _ (.tail _ (List.mem_append_right _ (.tail _ (List.mem_append_right _ h))))))))))))))), (q393.sub (fun i h => (List.mem_cons.1 h).elim (fun e => e ▸ (List.mem_append_right _ (.tail _ (.head _)))) (fun h => (List.mem_cons.1 h).elim (fun e => e ▸ (List.mem_append_right _ (.tail _ (.tail _ (.head _))))) (fun h => (List.mem_append.1 h).elim (fun h => (List.mem_append_right _ (.tail _ (.tail _ (.tail _ (List.mem_append_left _ h)))))) (fun h => (List.mem_cons.1 h).elim (fun e => e ▸ (List.mem_append_right _ (.tail _ (.tail _ (.tail _ (List.mem_append_right _ (.head _))))))) (fun h => (List.mem_append.1 h).elim (fun h => (List.mem_append_right _ (.tail _ (.tail _ (.tail _ (List.mem_append_right _ (.tail _ (List.mem_append_left _ h)))))))) (fun h => (List.mem_append.1 h).elim (fun h => (List.mem_append_left _ h)) (fun h => (List.mem_append_right _ (.tail _ (.tail _ (.tail _ (List.mem_append_right _ (.tail _ (List.mem_append_right _ h))))))))))))))), (sepC (show ∀ x ∈ [ob0], x ∉ (ob0_1 :: (ownB hp0_1_0 ++ (ob0_2 :: (ownB hp0_2_0 ++ (ownB h382 ++ (ownB hp0_4 ++ L)))))) from (in1 (nc (D.bb (i := 0) (j := 1) rfl rfl rfl) (na (D.bo (i := 0) (j := 2) rfl rfl rfl) (nc (D.bb (i := 0) (j := 3) rfl rfl rfl) (na (D.bo (i := 0) (j := 4) rfl rfl rfl) (na n398 (na (D.bo (i := 0) (j := 6) rfl rfl rfl) (D.bl (i := 0) rfl))))))))) (sepC (show ∀ x ∈ [ob0_1], x ∉ (ownB hp0_1_0 ++ (ob0_2 :: (ownB hp0_2_0 ++ (ownB h382 ++ (ownB hp0_4 ++ L))))) from (in1 (na (D.bo (i := 1) (j := 2) rfl rfl rfl) (nc (D.bb (i := 1) (j := 3) rfl rfl rfl) (na (D.bo (i := 1) (j := 4) rfl rfl rfl) (na n399 (na (D.bo (i := 1) (j := 6) rfl rfl rfl) (D.bl (i := 1) rfl)))))))) (sepC (show ∀ x ∈ ownB hp0_1_0, x ∉ (ob0_2 :: (ownB hp0_2_0 ++ (ownB h382 ++ (ownB hp0_4 ++ L)))) from (fun x hx => (nc (nbo (D.ob (i := 2) (j := 3) rfl rfl rfl) hx) (na ((D.dj (i := 2) (j := 4) rfl rfl rfl) x hx) (na (n402 x hx) (na ((D.dj (i := 2) (j := 6) rfl rfl rfl) x hx) ((D.dl (i := 2) rfl) x hx))))))) (sepC (show ∀ x ∈ [ob0_2], x ∉ (ownB hp0_2_0 ++ (ownB h382 ++ (ownB hp0_4 ++ L))) from (in1 (na (D.bo (i := 3) (j := 4) rfl rfl rfl) (na n400 (na (D.bo (i := 3) (j := 6) rfl rfl rfl) (D.bl (i := 3) rfl)))))) (sepC (show ∀ x ∈ ownB hp0_2_0, x ∉ (ownB h382 ++ (ownB hp0_4 ++ L)) from (fun x hx => (na (n403 x hx) (na ((D.dj (i := 4) (j := 6) rfl rfl rfl) x hx) ((D.dl (i := 4) rfl) x hx))))) (sepC (show ∀ x ∈ ownB h382, x ∉ (ownB hp0_4 ++ L) from (fun x hx => (na ((djs n404) x hx) (n396 x hx)))) (sepC (show ∀ x ∈ ownB hp0_4, x ∉ L from (fun x hx => ((D.dl (i := 6) rfl) x hx))) sepN))))))), n397, (show ∀ b ∈ (ob0 :: (ob0_1 :: (ownB hp0_1_0 ++ (ob0_2 :: (ownB hp0_2_0 ++ (ownB h382 ++ (ownB hp0_4 ++ L))))))), b < w380.heap.size from (fun i h => cx394.lt i ((List.mem_cons.1 h).elim (fun e => e ▸ (List.mem_append_right _ (.tail _ (.head _)))) (fun h => (List.mem_cons.1 h).elim (fun e => e ▸ (List.mem_append_right _ (.tail _ (.tail _ (.head _))))) (fun h => (List.mem_append.1 h).elim (fun h => (List.mem_append_right _ (.tail _ (.tail _ (.tail _ (List.mem_append_left _ h)))))) (fun h => (List.mem_cons.1 h).elim (fun e => e ▸ (List.mem_append_right _ (.tail _ (.tail _ (.tail _ (List.mem_append_right _ (.head _))))))) (fun h => (List.mem_append.1 h).elim (fun h => (List.mem_append_right _ (.tail _ (.tail _ (.tail _ (List.mem_append_right _ (.tail _ (List.mem_append_left _ h)))))))) (fun h => (List.mem_append.1 h).elim (fun h => (List.mem_append_left _ h)) (fun h => (List.mem_append_right _ (.tail _ (.tail _ (.tail _ (List.mem_append_right _ (.tail _ (List.mem_append_right _ h)))))))))))))))), cx394.g⟩))
 replace h := (ifN hb81).symm.trans h
 refine wp_skip (thenN ?_)
 refine wp_seq ?_
 refine wp_seq ?_
 refine reg ?_
 refine s1 pg80.z (okMv s76) rfl fun a409 p410 s411 => ?_
 refine s1 p410.z (okNil s411) rfl fun a412 p413 s414 => ?_
 refine s1 p413.z (okFA (o' := 4) fo68_4 s414 rfl) rfl fun a415 p416 s417 => ?_
 refine s1 p416.z (okLd (j := 4) na30 s417 (m25.cl) rfl rfl) rfl fun a418 p419 s420 => ?_
 refine s1 p419.z (okLenO (E2 := 66) Try.underlying30 s420 q42) rfl fun a421 p422 s423 => ?_
 refine s1 p422.z (okEq s423 cst) rfl fun a424 p425 s426 => ?_
 refine rN (thenN ?_)
 have pg427 : Pg _ [50, 51, 52, 53, 54, 55] _ _ := (((((((Pg.refl pg80.z).st p410 rfl).st p413 rfl).st p416 rfl).st p419 rfl).st p422 rfl).st p425 rfl)
 refine cnd s426 (fun hb428 => ?_) (fun hb428 => ?_)
 ·replace h := (ifP hb428).symm.trans h
  refine wp_seq ?_
  refine reg ?_
  refine s1 pg427.z (okAs cst) rfl fun a429 p430 s431 => ?_
  refine rN (thenN ?_)
  obtain rfl := Option.some.inj h
  have q432 := qhp0_0.mono ((g6.tA (Nat.le_of_eq e7.symm)).trans g13.t0)
  have m433 := (mob0_1.g0 g6).g0 g13
  have q434 := (qhp0_1_0.t0 (g6.tA (Nat.le_of_eq e7.symm)) g6).t0 g13.t0 g13
  have m435 := (mob0_2.g0 g6).g0 g13
  have q436 := (qhp0_2_0.t0 (g6.tA (Nat.le_of_eq e7.symm)) g6).t0 g13.t0 g13
  have q437 := (qhp0_4.t0 (g6.tA (Nat.le_of_eq e7.symm)) g6).t0 g13.t0 g13
  exact wp_ret (thenR (ret1 p430.z Try.results35 (rvT s431) ⟨_, rfl, hp0_3, rfl, m25, (q432.mono ((Tr.refl _ _).sub (fun i h => (.tail _ h)))), m433, (q434.sub (fun i h => (.tail _ h))), m435, (q436.sub (fun i h => (.tail _ h))), (q42.sub (fun i h => (.tail _ h))), (q437.sub (fun i h => (.tail _ h))), (sepC (show ∀ x ∈ [ob0], x ∉ (ob0_1 :: (ownB hp0_1_0 ++ (ob0_2 :: (ownB hp0_2_0 ++ (ownB hp0_3 ++ (ownB hp0_4 ++ L)))))) from (in1 (nc (D.bb (i := 0) (j := 1) rfl rfl rfl) (na (D.bo (i := 0) (j := 2) rfl rfl rfl) (nc (D.bb (i := 0) (j := 3) rfl rfl rfl) (na (D.bo (i := 0) (j := 4) rfl rfl rfl) (na (D.bo (i := 0) (j := 5) rfl rfl rfl) (na (D.bo (i := 0) (j := 6) rfl rfl rfl) (D.bl (i := 0) rfl))))))))) (sepC (show ∀ x ∈ [ob0_1], x ∉ (ownB hp0_1_0 ++ (ob0_2 :: (ownB hp0_2_0 ++ (ownB hp0_3 ++ (ownB hp0_4 ++ L))))) from (in1 (na (D.bo (i := 1) (j := 2) rfl rfl rfl) (nc (D.bb (i := 1) (j := 3) rfl rfl rfl) (na (D.bo (i := 1) (j := 4) rfl rfl rfl) (na (D.bo (i := 1) (j := 5) rfl rfl rfl) (na (D.bo (i := 1) (j := 6) rfl rfl rfl) (D.bl (i := 1) rfl)))))))) (sepC (show ∀ x ∈ ownB hp0_1_0, x ∉ (ob0_2 :: (ownB hp0_2_0 ++ (ownB hp0_3 ++ (ownB hp0_4 ++ L)))) from (fun x hx => (nc (nbo (D.ob (i := 2) (j := 3) rfl rfl rfl) hx) (na ((D.dj (i := 2) (j := 4) rfl rfl rfl) x hx) (na ((D.dj (i := 2) (j := 5) rfl rfl rfl) x hx) (na ((D.dj (i := 2) (j := 6) rfl rfl rfl) x hx) ((D.dl (i := 2) rfl) x hx))))))) (sepC (show ∀ x ∈ [ob0_2], x ∉ (ownB hp0_2_0 ++ (ownB hp0_3 ++ (ownB hp0_4 ++ L))) from (in1 (na (D.bo (i := 3) (j := 4) rfl rfl rfl) (na (D.bo (i := 3) (j := 5) rfl rfl rfl) (na (D.bo (i := 3) (j := 6) rfl rfl rfl) (D.bl (i := 3) rfl)))))) (sepC (show ∀ x ∈ ownB hp0_2_0, x ∉ (ownB hp0_3 ++ (ownB hp0_4 ++ L)) from (fun x hx => (na ((D.dj (i := 4) (j := 5) rfl rfl rfl) x hx) (na ((D.dj (i := 4) (j := 6) rfl rfl rfl) x hx) ((D.dl (i := 4) rfl) x hx))))) (sepC (show ∀ x ∈ ownB hp0_3, x ∉ (ownB hp0_4 ++ L) from (fun x hx => (na ((D.dj (i := 5) (j := 6) rfl rfl rfl) x hx) ((D.dl (i := 5) rfl) x hx)))) (sepC (show ∀ x ∈ ownB hp0_4, x ∉ L from (fun x hx => ((D.dl (i := 6) rfl) x hx))) sepN))))))), (fun _ h => .inl (.tail _ (.tail _ (List.mem_append_right _ (.tail _ (List.mem_append_right _ (List.mem_append_left _ h))))))), (show ∀ b ∈ (ob0 :: (ob0_1 :: (ownB hp0_1_0 ++ (ob0_2 :: (ownB hp0_2_0 ++ (ownB hp0_3 ++ (ownB hp0_4 ++ L))))))), b < w2.drew.heap.size from (fun i h => cx14.lt i (.tail _ h))), cx14.g⟩))
 replace h := (ifN hb428).symm.trans h
 refine wp_skip (thenN ?_)
 refine wp_seq ?_
 refine reg ?_
 have s438 := pg427.o s79 rfl
 refine s1 pg427.z (okMv s438) rfl fun a439 p440 s441 => ?_
 refine s1 p440.z (okNil s441) rfl fun a442 p443 s444 => ?_
 refine s1 p443.z (okFA (o' := (w64 ((x0.l.length : Int) - 1)).toNat * 17 + 1) fo66_1 s444 rfl) rfl fun a445 p446 s447 => ?_
 refine s1 p446.z (okLdA (l := Arr16.C y50.r) (j := 1) ag64 s447 e57 rfl rfl (partOf rfl)) rfl fun a448 p449 s450 => ?_
 have m458 := (mob0_1.g0 g6).g0 g13
 have m459 := (mob0_2.g0 g6).g0 g13
 have q460 := (qhp0_1_0.t0 (g6.tA (Nat.le_of_eq e7.symm)) g6).t0 g13.t0 g13
 have q461 := (qhp0_2_0.t0 (g6.tA (Nat.le_of_eq e7.symm)) g6).t0 g13.t0 g13
 have q462 := (qhp0_4.t0 (g6.tA (Nat.le_of_eq e7.symm)) g6).t0 g13.t0 g13
 refine lS (oAlloc zv64 p449.z rfl fun a451 w452 b453 p454 sp454 m455 g456 e457 => ?_)
 have f464 := cx14.nw e457
 have cx463 := cx14.al g456 m455
 have s465 := p454.o s450 rfl
 refine lS (oStoW (cs := Arr16.C y50.r) p454.z sp454 s465 m455 Try.sizeOf64 rfl (Arr16.C_one _) rfl fun w466 m467 g468 => ?_)
 have cx469 := cx463.st g468 f464
 refine rN (thenN ?_)
 refine wp_seq ?_
 refine regT 14 mixed (by kernel_rfl) ?_
 have g470 := G.drew w466
 have cx471 := cx469.ca g470
 have s472 := p454.o (p449.o (p446.o (p443.o (p440.o (pg427.o s76 rfl) rfl) rfl) rfl) rfl) rfl
 refine t1 p454.z (okMv s472) rfl fun a473 p474 s475 => ?_
 have s476 := p474.o s472 rfl
 refine t1 p474.z (okMv s476) rfl fun a477 p478 s479 => ?_
 refine t1 p478.z (okNil s479) rfl fun a480 p481 s482 => ?_
 refine t1 p481.z (okFA (o' := 4) fo68_4 s482 rfl) rfl fun a483 p484 s485 => ?_
 have m486 := ((m25.g0 g456).g1 g468 (m25.ne e457)).g0 g470
 refine t1 p484.z (okLd (j := 4) na30 s485 (m486.cl) rfl rfl) rfl fun a487 p488 s489 => ?_
 have s490 := p488.o (p484.o (p481.o (p478.o s476 rfl) rfl) rfl) rfl
 refine t1 p488.z (okMv s490) rfl fun a491 p492 s493 => ?_
 refine t1 p492.z (okNil s493) rfl fun a494 p495 s496 => ?_
 refine t1 p495.z (okFA (o' := 4) fo68_4 s496 rfl) rfl fun a497 p498 s499 => ?_
 refine t1 p498.z (okLd (j := 4) na30 s499 (m486.cl) rfl rfl) rfl fun a500 p501 s502 => ?_
 have q503 := ((q42.t0 (g456.tA (Nat.le_of_eq e457.symm)) g456).t1 (g468.t1 (.head _)) g468 (q42.nb e457)).t0 g470.t0 g470
 refine t1 p501.z (okLenO (E2 := 66) Try.underlying30 s502 q503) rfl fun a504 p505 s506 => ?_
 refine t1 p505.z (okSub s506 cst) rfl fun a507 p508 s509 => ?_
 have s510 := p508.o (p505.o (p501.o (p498.o (p495.o (p492.o s489 rfl) rfl) rfl) rfl) rfl) rfl
 obtain ⟨z511, hz512, h⟩ := Option.bind_eq_some_iff.1 h
 obtain ⟨v513, q515, e516, k514⟩ := q503.slc (lo := none) (hi := (some (.tmp 70))) hz512
 have t517 : Tr (b453 :: (b3 :: (ob0 :: (ob0_1 :: (ownB hp0_1_0 ++ (ob0_2 :: (ownB hp0_2_0 ++ (ownB hp0_3 ++ (ownB hp0_4 ++ L))))))))) w466.drew (b453 :: (b3 :: (ob0 :: (ob0_1 :: (ownB hp0_1_0 ++ (ob0_2 :: (ownB hp0_2_0 ++ (ownB v513 ++ (ownB hp0_4 ++ L))))))))) w466.drew := by rw [e516]; exact Tr.refl _ _
 have cx518 : Cx (ob0 :: (ob0_1 :: (ownB hp0_1_0 ++ (ob0_2 :: (ownB hp0_2_0 ++ (ownB hp0_3 ++ (ownB hp0_4 ++ []))))))) w (b453 :: (b3 :: (ob0 :: (ob0_1 :: (ownB hp0_1_0 ++ (ob0_2 :: (ownB hp0_2_0 ++ (ownB v513 ++ (ownB hp0_4 ++ L))))))))) w466.drew := by rw [e516]; exact cx471
 have q519 : OwnS KTFrame 66 (b453 :: (b3 :: (ob0 :: (ob0_1 :: (ownB hp0_1_0 ++ (ob0_2 :: (ownB hp0_2_0 ++ (ownB v513 ++ (ownB hp0_4 ++ L))))))))) w466.drew v513 z511 := by rw [e516]; exact q515
 have nb520 : ∀ x ∈ ownB v513, x ∉ L := by rw [e516]; exact (D.dl (i := 5) rfl)
 have sf521 : ∀ x ∈ ownB v513, x ∈ ((ob0 :: (ob0_1 :: (ownB hp0_1_0 ++ (ob0_2 :: (ownB hp0_2_0 ++ (ownB hp0_3 ++ (ownB hp0_4 ++ []))))))) : List Nat) ∨ w.heap.size ≤ x := by rw [e516]; exact (fun _ h => .inl (.tail _ (.tail _ (List.mem_append_right _ (.tail _ (List.mem_append_right _ (List.mem_append_left _ h)))))))
 have n522 : ob0 ∉ ownB v513 := by rw [e516]; exact (D.bo (i := 0) (j := 5) rfl rfl rfl)
 have n523 : ob0_1 ∉ ownB v513 := by rw [e516]; exact (D.bo (i := 1) (j := 5) rfl rfl rfl)
 have n524 : ob0_2 ∉ ownB v513 := by rw [e516]; exact (D.bo (i := 3) (j := 5) rfl rfl rfl)
 have n525 : b3 ∉ ownB v513 := by rw [e516]; exact (qhp0_3.nb e7)
 have n526 : b453 ∉ ownB v513 := by rw [e516]; exact (q42.nb e457)
 have n527 : ∀ x ∈ ownB hp0_1_0, x ∉ ownB v513 := by rw [e516]; exact (D.dj (i := 2) (j := 5) rfl rfl rfl)
 have n528 : ∀ x ∈ ownB hp0_2_0, x ∉ ownB v513 := by rw [e516]; exact (D.dj (i := 4) (j := 5) rfl rfl rfl)
 have n529 : ∀ x ∈ ownB hp0_4, x ∉ ownB v513 := by rw [e516]; exact (djs (D.dj (i := 5) (j := 6) rfl rfl rfl))
 refine t1 p508.z (k514 Try.underlying30 Try.sizeOf66 s510 (.inl ⟨rfl, rfl⟩) (.inr ⟨_, congrArg some s509⟩) _) rfl fun a530 p531 s532 => ?_
 have s533 := p531.o (p508.o (p505.o (p501.o (p498.o (p495.o (p492.o (p488.o (p484.o (p481.o (p478.o s475 rfl) rfl) rfl) rfl) rfl) rfl) rfl) rfl) rfl) rfl) rfl
 refine t1 p531.z (okNil s533) rfl fun a534 p535 s536 => ?_
 refine t1 p535.z (okFA (o' := 4) fo68_4 s536 rfl) rfl fun a537 p538 s539 => ?_
 refine tN ?_
 have s540 := p538.o (p535.o s532 rfl) rfl
 have m541 := m486.g0 (G.refl [] w466.drew)
 refine lS (oSto (cs := [v513]) (l' := Tmicro_machine.C ({ x0 with a := default, t := default, l := z511 }) hp0_0 (ptr ob0_1 0) (ptr ob0_2 0) v513 hp0_4) p538.z s539 s540 m541 Try.sizeOf30 q519.cells (oneS q519.one) rfl rfl fun w542 m543 g544 => ?_)
 have cx545 := cx518.sS g544 (.head _)
 refine rN (thenN ?_)
 refine wp_seq ?_
 refine regS mixed (by kernel_rfl) ?_
 have g546 := G.drew w542
 have cx547 := cx545.ca g546
 have s548 := p538.o (p535.o (p531.o (p508.o (p505.o (p501.o (p498.o (p495.o (p492.o s490 rfl) rfl) rfl) rfl) rfl) rfl) rfl) rfl) rfl
 refine t1 p538.z (okMv s548) rfl fun a549 p550 s551 => ?_
 refine t1 p550.z (okNil s551) rfl fun a552 p553 s554 => ?_
 refine t1 p553.z (okFA (o' := 4) fo68_4 s554 rfl) rfl fun a555 p556 s557 => ?_
 have m558 := m543.g0 g546
 refine t1 p556.z (okLd (j := 4) na30 s557 (m558.cl) rfl rfl) rfl fun a559 p560 s561 => ?_
 have s562 := p560.o (p556.o (p553.o (p550.o s548 rfl) rfl) rfl) rfl
 refine t1 p560.z (okMv s562) rfl fun a563 p564 s565 => ?_
 refine t1 p564.z (okNil s565) rfl fun a566 p567 s568 => ?_
 refine t1 p567.z (okFA (o' := 4) fo68_4 s568 rfl) rfl fun a569 p570 s571 => ?_
 refine t1 p570.z (okLd (j := 4) na30 s571 (m558.cl) rfl rfl) rfl fun a572 p573 s574 => ?_
 have q575 := (q519.t1 (g544.t1 (.tail _ (.tail _ (.head _)))) g544 n522).t0 g546.t0 g546
 refine t1 p573.z (okLenO (E2 := 66) Try.underlying30 s574 q575) rfl fun a576 p577 s578 => ?_
 refine t1 p577.z (okSub s578 cst) rfl fun a579 p580 s581 => ?_
 have s582 := p580.o (p577.o (p573.o (p570.o (p567.o (p564.o s561 rfl) rfl) rfl) rfl) rfl) rfl
 obtain ⟨y583, hy584, h⟩ := Option.bind_eq_some_iff.1 h
 obtain ⟨b585, cs587, r589, e590, nb591, k588⟩ := q575.at_ hy584
 obtain rfl := r589
 refine t1 p580.z (k588 Try.underlying30 Try.sizeOf66 s582 s581 _) rfl fun a592 p593 s594 => ?_
 refine t1 p593.z (okAs s594) rfl fun a595 p596 s597 => ?_
 refine tN (thenN ?_)
 refine wp_seq ?_
 have q598 := qhp0_0.mono ((((((((g6.tA (Nat.le_of_eq e7.symm)).trans g13.t0).trans (g456.tA (Nat.le_of_eq e457.symm))).trans (g468.t1 (.head _))).trans g470.t0).trans t517).trans (g544.t1 (.tail _ (.tail _ (.head _))))).trans g546.t0)
 have q599 := (((((q460.t0 (g456.tA (Nat.le_of_eq e457.symm)) g456).t1 (g468.t1 (.head _)) g468 (q460.nb e457)).t0 g470.t0 g470).t0 t517 (G.refl [] w466.drew)).t1 (g544.t1 (.tail _ (.tail _ (.head _)))) g544 (D.bo (i := 0) (j := 2) rfl rfl rfl)).t0 g546.t0 g546
 have q600 := (((((q461.t0 (g456.tA (Nat.le_of_eq e457.symm)) g456).t1 (g468.t1 (.head _)) g468 (q461.nb e457)).t0 g470.t0 g470).t0 t517 (G.refl [] w466.drew)).t1 (g544.t1 (.tail _ (.tail _ (.head _)))) g544 (D.bo (i := 0) (j := 4) rfl rfl rfl)).t0 g546.t0 g546
 have q601 := (((((q462.t0 (g456.tA (Nat.le_of_eq e457.symm)) g456).t1 (g468.t1 (.head _)) g468 (q462.nb e457)).t0 g470.t0 g470).t0 t517 (G.refl [] w466.drew)).t1 (g544.t1 (.tail _ (.tail _ (.head _)))) g544 (D.bo (i := 0) (j := 6) rfl rfl rfl)).t0 g546.t0 g546
 have s668 := p596.o (p593.o (p580.o (p577.o (p573.o (p570.o (p567.o (p564.o (p560.o (p556.o (p553.o (p550.o (p538.o (p535.o (p531.o (p508.o (p505.o (p501.o (p498.o (p495.o (p492.o (p488.o (p484.o (p481.o (p478.o (p474.o (p454.o (p449.o (p446.o (p443.o (p440.o (pg427.o s78 rfl) rfl) rfl) rfl) rfl) rfl) rfl) rfl) rfl) rfl) rfl) rfl) rfl) rfl) rfl) rfl) rfl) rfl) rfl) rfl) rfl) rfl) rfl) rfl) rfl) rfl) rfl) rfl) rfl) rfl) rfl) rfl
 have m669 := (((((m458.g0 g456).g1 g468 (m458.ne e457)).g0 g470).g0 (G.refl [] w466.drew)).g1 g544 (D.bb (i := 0) (j := 1) rfl rfl rfl).symm).g0 g546
 have m670 := (((((m459.g0 g456).g1 g468 (m459.ne e457)).g0 g470).g0 (G.refl [] w466.drew)).g1 g544 (D.bb (i := 0) (j := 3) rfl rfl rfl).symm).g0 g546
 have m671 := (((((m69.g0 g456).g1 g468 (m69.ne e457)).g0 g470).g0 (G.refl [] w466.drew)).g1 g544 (mob0.ne e7).symm).g0 g546
 have m672 := (((m467.g0 g470).g0 (G.refl [] w466.drew)).g1 g544 (m25.ne e457).symm).g0 g546
 refine regJ (fun a' w' => Z Try.f35.ntmps a' ∧ a'.eval (.tmp 4) = .bool false ∧ Bk w' ob0 (Tmicro_machine.C ({ x0 with a := default, t := default, l := ((z511.set (w64 ((z511.length : Int) - 1)).toNat ({ y583 with r := ({ y583.r with a0 := y50.r.a0 } : Arr16) })).set (w64 ((z511.length : Int) - 1)).toNat ({ y583 with r := ({ ({ y583.r with a0 := y50.r.a0 } : Arr16) with a1 := y50.r.a1 } : Arr16) })) }) hp0_0 (ptr ob0_1 0) (ptr ob0_2 0) v513 hp0_4) 68 ∧ Bk w' ob0_1 (Tcell_Arena.C x0.a hp0_1_0) 72 ∧ Bk w' ob0_2 (Tpermit_Table.C x0.t hp0_2_0) 78 ∧ Bk w' b3 (TIns.C x1) 40 ∧ Bk w' b453 (Arr16.C y50.r) 64 ∧ OwnS (KInt .i64) 2 (b453 :: (b3 :: (ob0 :: (ob0_1 :: (ownB hp0_1_0 ++ (ob0_2 :: (ownB hp0_2_0 ++ (ownB v513 ++ (ownB hp0_4 ++ L))))))))) w' hp0_1_0 x0.a.l ∧ OwnS KTPark 59 (b453 :: (b3 :: (ob0 :: (ob0_1 :: (ownB hp0_1_0 ++ (ob0_2 :: (ownB hp0_2_0 ++ (ownB v513 ++ (ownB hp0_4 ++ L))))))))) w' hp0_2_0 x0.t.l ∧ OwnS KTNote 80 (b453 :: (b3 :: (ob0 :: (ob0_1 :: (ownB hp0_1_0 ++ (ob0_2 :: (ownB hp0_2_0 ++ (ownB v513 ++ (ownB hp0_4 ++ L))))))))) w' hp0_4 x0.notes ∧ OwnS KTFrame 66 (b453 :: (b3 :: (ob0 :: (ob0_1 :: (ownB hp0_1_0 ++ (ob0_2 :: (ownB hp0_2_0 ++ (ownB v513 ++ (ownB hp0_4 ++ L))))))))) w' v513 ((z511.set (w64 ((z511.length : Int) - 1)).toNat ({ y583 with r := ({ y583.r with a0 := y50.r.a0 } : Arr16) })).set (w64 ((z511.length : Int) - 1)).toNat ({ y583 with r := ({ ({ y583.r with a0 := y50.r.a0 } : Arr16) with a1 := y50.r.a1 } : Arr16) })) ∧ Cx (ob0 :: (ob0_1 :: (ownB hp0_1_0 ++ (ob0_2 :: (ownB hp0_2_0 ++ (ownB hp0_3 ++ (ownB hp0_4 ++ []))))))) w (b453 :: (b3 :: (ob0 :: (ob0_1 :: (ownB hp0_1_0 ++ (ob0_2 :: (ownB hp0_2_0 ++ (ownB v513 ++ (ownB hp0_4 ++ L))))))))) w' ∧ Tr (b453 :: (b3 :: (ob0 :: (ob0_1 :: (ownB hp0_1_0 ++ (ob0_2 :: (ownB hp0_2_0 ++ (ownB v513 ++ (ownB hp0_4 ++ L))))))))) w542.drew (b453 :: (b3 :: (ob0 :: (ob0_1 :: (ownB hp0_1_0 ++ (ob0_2 :: (ownB hp0_2_0 ++ (ownB v513 ++ (ownB hp0_4 ++ L))))))))) w') ?_ ?_
 ·refine regH (n := 14) [(3, fun w' => Cl w' b453 0 [.int .i64 y50.r.a0]), (5, fun w' => Cl w' b453 1 [.int .i64 y50.r.a1])] mixed rfl ?_
  have g673 := G.drew w542.drew
  have cx674 := cx547.ca g673
  refine hTakeW (i := 0) rfl (by kernel_rfl) (by kernel_rfl) (by kernel_rfl) nrm (cond := fun _ => True) (.inl fun _ => trivial) p596.z (wN rfl) (fun _ _ => okMv s597) trivial rfl fun a675 p676 sp676 => ?_
  have s677 := p676.o s597 rfl
  refine hTakeW (i := 1) rfl (by kernel_rfl) (by kernel_rfl) (by kernel_rfl) nrm (cond := fun _ => True) (.inl fun _ => trivial) p676.z (wN rfl) (fun _ _ => okMv s677) trivial rfl fun a678 p679 sp679 => ?_
  have s680 := p679.o (p676.o (p596.o (p593.o (p580.o (p577.o (p573.o (p570.o (p567.o (p564.o (p560.o (p556.o (p553.o (p550.o (p538.o (p535.o (p531.o (p508.o (p505.o (p501.o (p498.o (p495.o (p492.o (p488.o (p484.o (p481.o (p478.o (p474.o sp454 rfl) rfl) rfl) rfl) rfl) rfl) rfl) rfl) rfl) rfl) rfl) rfl) rfl) rfl) rfl) rfl) rfl) rfl) rfl) rfl) rfl) rfl) rfl) rfl) rfl) rfl) rfl) rfl
  refine hTakeW (i := 2) rfl (by kernel_rfl) (by kernel_rfl) (by kernel_rfl) nrm (cond := fun _ => True) (.inl fun _ => trivial) p679.z (wN rfl) (fun _ _ => okIA (o' := 0) Try.underlying64 Try.sizeOf2 s680 cst (by decide)) trivial rfl fun a681 p682 sp682 => ?_
  have m683 := m672.g0 g673
  refine hTakeW (i := 3) rfl (by kernel_rfl) (by kernel_rfl) (by kernel_rfl) nrm (.inr (.head _)) p682.z (wN rfl) (fun _ h => okLd (j := 0) na2 sp682 h rfl rfl) (m683.clp rfl) rfl fun a684 p685 sp685 => ?_
  have s686 := p685.o (p682.o s680 rfl) rfl
  refine hTakeW (i := 4) rfl (by kernel_rfl) (by kernel_rfl) (by kernel_rfl) nrm (cond := fun _ => True) (.inl fun _ => trivial) p685.z (wN rfl) (fun _ _ => okIA (o' := 1) Try.underlying64 Try.sizeOf2 s686 cst (by decide)) trivial rfl fun a687 p688 sp688 => ?_
  refine hTakeW (i := 5) rfl (by kernel_rfl) (by kernel_rfl) (by kernel_rfl) nrm (.inr (.tail _ (.head _))) p688.z (wN rfl) (fun _ h => okLd (j := 0) na2 sp688 h rfl rfl) (m683.clp rfl) rfl fun a689 p690 sp690 => ?_
  have s691 := p690.o (p688.o (p685.o (p682.o (p679.o sp676 rfl) rfl) rfl) rfl) rfl
  refine hTakeW (i := 6) rfl (by kernel_rfl) (by kernel_rfl) (by kernel_rfl) nrm (cond := fun _ => True) (.inl fun _ => trivial) p690.z (wN rfl) (fun _ _ => okNil s691) trivial rfl fun a692 p693 sp693 => ?_
  refine hTakeW (i := 7) rfl (by kernel_rfl) (by kernel_rfl) (by kernel_rfl) nrm (cond := fun _ => True) (.inl fun _ => trivial) p693.z (wN rfl) (fun _ _ => okFA (o' := (w64 ((z511.length : Int) - 1)).toNat * 17 + 1) fo66_1 sp693 rfl) trivial rfl fun a694 p695 sp695 => ?_
  refine hTakeW (i := 8) rfl (by kernel_rfl) (by kernel_rfl) (by kernel_rfl) nrm (cond := fun _ => True) (.inl fun _ => trivial) p695.z (wN rfl) (fun _ _ => okIA (o' := (w64 ((z511.length : Int) - 1)).toNat * 17 + 1) Try.underlying64 Try.sizeOf2 sp695 cst (by decide)) trivial rfl fun a696 p697 sp697 => ?_
  have s698 := p697.o (p695.o (p693.o (p690.o (p688.o (p685.o (p682.o sp679 rfl) rfl) rfl) rfl) rfl) rfl) rfl
  refine hTakeW (i := 10) rfl (by kernel_rfl) (by kernel_rfl) (by kernel_rfl) nrm (cond := fun _ => True) (.inl fun _ => trivial) p697.z (wN rfl) (fun _ _ => okNil s698) trivial rfl fun a699 p700 sp700 => ?_
  refine hTakeW (i := 11) rfl (by kernel_rfl) (by kernel_rfl) (by kernel_rfl) nrm (cond := fun _ => True) (.inl fun _ => trivial) p700.z (wN rfl) (fun _ _ => okFA (o' := (w64 ((z511.length : Int) - 1)).toNat * 17 + 1) fo66_1 sp700 rfl) trivial rfl fun a701 p702 sp702 => ?_
  have s703 := p702.o (p700.o sp697 rfl) rfl
  have s704 := p702.o (p700.o (p697.o (p695.o (p693.o (p690.o (p688.o sp685 rfl) rfl) rfl) rfl) rfl) rfl) rfl
  have e705 := e590.g0 g673
  have q706 := q575.t0 g673.t0 g673
  have m710 := m558.g0 g673
  have m711 := m669.g0 g673
  have m712 := m670.g0 g673
  have m713 := m671.g0 g673
  refine hOne (i := 9) (by kernel_rfl) rfl (oStoE (K := KTFrame) (e' := ({ y583 with r := ({ y583.r with a0 := y50.r.a0 } : Arr16) })) (vs := [.int .i64 y50.r.a0]) (j := 1) p702.z s703 s704 q706 hy584 nb591 e705 (fun _ h => (.tail _ (.tail _ (.tail _ (.tail _ (List.mem_append_right _ (.tail _ (List.mem_append_right _ (List.mem_append_left _ h))))))))) rfl Try.sizeOf2 rfl one1 rfl rfl rfl rfl fun w707 q708 g709 => ?_)
  have cx714 := cx674.cs g709 sf521
  have m715 := m683.g g709 n526
  refine ⟨⟨.inl (by kernel_rfl), .inr fun _ => (m715.clp rfl), trivial⟩, ?_⟩
  refine hTakeW (i := 12) rfl (by kernel_rfl) (by kernel_rfl) (by kernel_rfl) nrm (cond := fun _ => True) (.inl fun _ => trivial) p702.z (wN rfl) (fun _ _ => okIA (o' := (w64 ((z511.length : Int) - 1)).toNat * 17 + 2) Try.underlying64 Try.sizeOf2 sp702 cst (by decide)) trivial rfl fun a716 p717 sp717 => ?_
  have s718 := p717.o (p702.o (p700.o (p697.o (p695.o (p693.o sp690 rfl) rfl) rfl) rfl) rfl) rfl
  obtain ⟨b719, cs720, r721, e722, nb723, k724⟩ := q708.at_ (ix_set hy584)
  obtain rfl : b585 = b719 := own1 nb591 nb723
  obtain rfl := r721
  have m728 := m710.g g709 n522
  have m729 := m711.g g709 n523
  have m730 := m712.g g709 n524
  have m731 := m713.g g709 n525
  refine hOne (i := 13) (by kernel_rfl) rfl (oStoE (K := KTFrame) (e' := ({ y583 with r := ({ ({ y583.r with a0 := y50.r.a0 } : Arr16) with a1 := y50.r.a1 } : Arr16) })) (vs := [.int .i64 y50.r.a1]) (j := 2) p717.z sp717 s718 q708 (ix_set hy584) nb591 e722 (fun _ h => (.tail _ (.tail _ (.tail _ (.tail _ (List.mem_append_right _ (.tail _ (List.mem_append_right _ (List.mem_append_left _ h))))))))) rfl Try.sizeOf2 rfl one1 rfl rfl rfl rfl fun w725 q726 g727 => ?_)
  have cx732 := cx714.cs g727 sf521
  refine ⟨⟨.inl (by kernel_rfl), .inl (by kernel_rfl), trivial⟩, ?_⟩
  have q733 := ((q599.t0 g673.t0 g673).tr (g709.t (fun _ h => (.tail _ (.tail _ (.tail _ (.tail _ (List.mem_append_right _ (.tail _ (List.mem_append_right _ (List.mem_append_left _ h)))))))))) g709 n527).tr (g727.t (fun _ h => (.tail _ (.tail _ (.tail _ (.tail _ (List.mem_append_right _ (.tail _ (List.mem_append_right _ (List.mem_append_left _ h)))))))))) g727 n527
  have q734 := ((q600.t0 g673.t0 g673).tr (g709.t (fun _ h => (.tail _ (.tail _ (.tail _ (.tail _ (List.mem_append_right _ (.tail _ (List.mem_append_right _ (List.mem_append_left _ h)))))))))) g709 n528).tr (g727.t (fun _ h => (.tail _ (.tail _ (.tail _ (.tail _ (List.mem_append_right _ (.tail _ (List.mem_append_right _ (List.mem_append_left _ h)))))))))) g727 n528
  have q735 := ((q601.t0 g673.t0 g673).tr (g709.t (fun _ h => (.tail _ (.tail _ (.tail _ (.tail _ (List.mem_append_right _ (.tail _ (List.mem_append_right _ (List.mem_append_left _ h)))))))))) g709 n529).tr (g727.t (fun _ h => (.tail _ (.tail _ (.tail _ (.tail _ (List.mem_append_right _ (.tail _ (List.mem_append_right _ (List.mem_append_left _ h)))))))))) g727 n529
  have s736 := p717.o (p702.o (p700.o (p697.o (p695.o (p693.o (p690.o (p688.o (p685.o (p682.o (p679.o (p676.o s668 rfl) rfl) rfl) rfl) rfl) rfl) rfl) rfl) rfl) rfl) rfl) rfl
  have m737 := m728.g g727 n522
  have m738 := m729.g g727 n523
  have m739 := m730.g g727 n524
  have m740 := m731.g g727 n525
  have m741 := m715.g g727 n526
  exact hDone (by kernel_rfl) ⟨rfl, p717.z, s736, m737, m738, m739, m740, m741, q733, q734, q735, q726, cx732, ((g673.t0.trans (g709.t (fun _ h => (.tail _ (.tail _ (.tail _ (.tail _ (List.mem_append_right _ (.tail _ (List.mem_append_right _ (List.mem_append_left _ h))))))))))).trans (g727.t (fun _ h => (.tail _ (.tail _ (.tail _ (.tail _ (List.mem_append_right _ (.tail _ (List.mem_append_right _ (List.mem_append_left _ h)))))))))))⟩
 rintro a742 w743 ⟨z744, s745, m746, m747, m748, m749, m750, q751, q752, q753, q754, cx755, t756⟩
 refine thenN ?_
 refine wp_seq ?_
 refine reg ?_
 refine s1 z744 (okAs cst) rfl fun a757 p758 s759 => ?_
 refine rN (thenN ?_)
 obtain rfl := Option.some.inj h
 have q760 := q598.mono t756
 exact wp_ret (ret1 p758.z Try.results35 (rvT s759) ⟨_, rfl, v513, rfl, m746, (q760.mono ((Tr.refl _ _).sub (fun i h => (.tail _ (.tail _ h))))), m747, (q751.sub (fun i h => (.tail _ (.tail _ h)))), m748, (q752.sub (fun i h => (.tail _ (.tail _ h)))), (q754.sub (fun i h => (.tail _ (.tail _ h)))), (q753.sub (fun i h => (.tail _ (.tail _ h)))), (sepC (show ∀ x ∈ [ob0], x ∉ (ob0_1 :: (ownB hp0_1_0 ++ (ob0_2 :: (ownB hp0_2_0 ++ (ownB v513 ++ (ownB hp0_4 ++ L)))))) from (in1 (nc (D.bb (i := 0) (j := 1) rfl rfl rfl) (na (D.bo (i := 0) (j := 2) rfl rfl rfl) (nc (D.bb (i := 0) (j := 3) rfl rfl rfl) (na (D.bo (i := 0) (j := 4) rfl rfl rfl) (na n522 (na (D.bo (i := 0) (j := 6) rfl rfl rfl) (D.bl (i := 0) rfl))))))))) (sepC (show ∀ x ∈ [ob0_1], x ∉ (ownB hp0_1_0 ++ (ob0_2 :: (ownB hp0_2_0 ++ (ownB v513 ++ (ownB hp0_4 ++ L))))) from (in1 (na (D.bo (i := 1) (j := 2) rfl rfl rfl) (nc (D.bb (i := 1) (j := 3) rfl rfl rfl) (na (D.bo (i := 1) (j := 4) rfl rfl rfl) (na n523 (na (D.bo (i := 1) (j := 6) rfl rfl rfl) (D.bl (i := 1) rfl)))))))) (sepC (show ∀ x ∈ ownB hp0_1_0, x ∉ (ob0_2 :: (ownB hp0_2_0 ++ (ownB v513 ++ (ownB hp0_4 ++ L)))) from (fun x hx => (nc (nbo (D.ob (i := 2) (j := 3) rfl rfl rfl) hx) (na ((D.dj (i := 2) (j := 4) rfl rfl rfl) x hx) (na (n527 x hx) (na ((D.dj (i := 2) (j := 6) rfl rfl rfl) x hx) ((D.dl (i := 2) rfl) x hx))))))) (sepC (show ∀ x ∈ [ob0_2], x ∉ (ownB hp0_2_0 ++ (ownB v513 ++ (ownB hp0_4 ++ L))) from (in1 (na (D.bo (i := 3) (j := 4) rfl rfl rfl) (na n524 (na (D.bo (i := 3) (j := 6) rfl rfl rfl) (D.bl (i := 3) rfl)))))) (sepC (show ∀ x ∈ ownB hp0_2_0, x ∉ (ownB v513 ++ (ownB hp0_4 ++ L)) from (fun x hx => (na (n528 x hx) (na ((D.dj (i := 4) (j := 6) rfl rfl rfl) x hx) ((D.dl (i := 4) rfl) x hx))))) (sepC (show ∀ x ∈ ownB v513, x ∉ (ownB hp0_4 ++ L) from (fun x hx => (na ((djs n529) x hx) (nb520 x hx)))) (sepC (show ∀ x ∈ ownB hp0_4, x ∉ L from (fun x hx => ((D.dl (i := 6) rfl) x hx))) sepN))))))), sf521, (show ∀ b ∈ (ob0 :: (ob0_1 :: (ownB hp0_1_0 ++ (ob0_2 :: (ownB hp0_2_0 ++ (ownB v513 ++ (ownB hp0_4 ++ L))))))), b < w743.heap.size from (fun i h => cx755.lt i (.tail _ (.tail _ h)))), cx755.g⟩)

set_option maxHeartbeats 4000000 in
set_option maxRecDepth 100000 in
theorem c39 (L : List Nat) (w : World) (hL : ∀ b ∈ L, b < w.heap.size) (x0 : Int) (x1 : Int) (r : Bool) (h : clock_Due x0 x1 = some r) : Calls Try.prog 39 #[.int .i64 x0, .int .i64 x1] w (fun e w' => ∃ v, e = .returned v ∧ v = .bool r ∧ G [] w w') := by
 refine enterF Try.func39 rfl rfl fun a0 z0 A => ?_
 have s0_0 := A 0 (.int .i64 x0) rfl
 have s0_1 := A 1 (.int .i64 x1) rfl
 clear A
 have c0 : Cx [] w L w := ⟨G.refl _ _, hL⟩
 unfold clock_Due at h
 refine wp_seq ?_
 refine reg ?_
 refine s1 z0 (okAs cst) rfl fun a1 p2 s3 => ?_
 refine rN (thenN ?_)
 refine wp_seq ?_
 refine reg ?_
 have s4 := p2.o s0_1 rfl
 refine s1 p2.z (okMv s4) rfl fun a5 p6 s7 => ?_
 refine s1 p6.z (okGe s7 cst) rfl fun a8 p9 s10 => ?_
 refine s1 p9.z (okMv s10) rfl fun a11 p12 s13 => ?_
 refine cutP 4 (fun a' => Pg Try.f39.ntmps [8, 9, 10, 11] a11 a' ∧ a'.eval (.tmp 11) = .bool ((decide (0 ≤ x1)) && (decide (x1 ≤ x0)))) ?_ ?_
 ·rcases bf (decide (0 ≤ x1)) with hb14 | hb14
  ·have s15 := bv s13 hb14
   refine s1k p12.z rfl (yd p12.z rfl rfl s15) rfl fun a16 p17 s18 => ?_
   have s19 := p17.o s15 rfl
   refine s1k p17.z rfl (yd p17.z rfl rfl s19) rfl fun a20 p21 s22 => ?_
   have s23 := p21.o s19 rfl
   refine s1k p21.z rfl (yd p21.z rfl rfl s23) rfl fun a24 p25 s26 => ?_
   have s27 := p25.o s23 rfl
   refine s1 p25.z (okPickF s27 cst) rfl fun a28 p29 s30 => ?_
   exact rN ⟨rfl, rfl, (((((Pg.refl p12.z).st p17 rfl).st p21 rfl).st p25 rfl).st p29 rfl), (andF hb14 s30)⟩
  ·have s31 := bv s13 hb14
   have s32 := p12.o (p9.o (p6.o (p2.o s0_0 rfl) rfl) rfl) rfl
   refine s1g p12.z (okMv s32) rfl (yd p12.z rfl rfl s31) fun a33 p34 s35 => ?_
   have s36 := p34.o s31 rfl
   have s37 := p34.o (p12.o (p9.o (p6.o s4 rfl) rfl) rfl) rfl
   refine s1g p34.z (okMv s37) rfl (yd p34.z rfl rfl s36) fun a38 p39 s40 => ?_
   have s41 := p39.o s36 rfl
   have s42 := p39.o s35 rfl
   refine s1g p39.z (okGe s42 s40) rfl (yd p39.z rfl rfl s41) fun a43 p44 s45 => ?_
   have s46 := p44.o s41 rfl
   refine s1 p44.z (okPickT s46 s45) rfl fun a47 p48 s49 => ?_
   exact rN ⟨rfl, rfl, (((((Pg.refl p12.z).st p34 rfl).st p39 rfl).st p44 rfl).st p48 rfl), (andT hb14 s49)⟩
 rintro a50 ⟨pg51, s52⟩
 refine s1 pg51.z (okAs s52) rfl fun a53 p54 s55 => ?_
 refine rN (thenN ?_)
 obtain rfl := Option.some.inj h
 exact wp_ret (ret1 p54.z Try.results39 (rvT s55) ⟨_, rfl, rfl, c0.g⟩)

set_option maxHeartbeats 4000000 in
set_option maxRecDepth 100000 in
theorem c36 (L : List Nat) (w : World) (x0 : Tpermit_Table) (ob0 : Nat) (hp0_0 : Value) (x1 : Int) (x2 : Int) (hL : ∀ b ∈ (ob0 :: (ownB hp0_0 ++ L)), b < w.heap.size) (D : Sep [[ob0], ownB hp0_0] L) (mob0 : Bk w ob0 (Tpermit_Table.C x0 hp0_0) 78) (qhp0_0 : OwnS KTPark 59 (ob0 :: (ownB hp0_0 ++ L)) w hp0_0 x0.l) (r : Bool × Er × Tpermit_Table) (h : permit_Table_Park x0 x1 x2 = some r) : Calls Try.prog 36 #[ptr ob0 0, .int .i64 x1, .int .i64 x2] w (fun e w' => ∃ v, e = .returned v ∧ ∃ u1_0, v = .tuple #[.bool r.1, u1_0] ∧ ErG 36 0 (ob0 :: (ownB hp0_0 ++ L)) w' u1_0 r.2.1 ∧ Bk w' ob0 (Tpermit_Table.C r.2.2 hp0_0) 78 ∧ OwnS KTPark 59 (ob0 :: (ownB hp0_0 ++ L)) w' hp0_0 r.2.2.l ∧ Sep [[ob0], ownB hp0_0] L ∧ (∀ b ∈ (ob0 :: (ownB hp0_0 ++ L)), b < w'.heap.size) ∧ G (ob0 :: (ownB hp0_0 ++ [])) w w') := by
 refine enterF Try.func36 rfl rfl fun a0 z0 A => ?_
 have s0_0 := A 0 (ptr ob0 0) rfl
 have s0_1 := A 1 (.int .i64 x1) rfl
 have s0_2 := A 2 (.int .i64 x2) rfl
 clear A
 have hLb : ∀ b ∈ L, b < w.heap.size := fun b h => hL b (.tail _ (List.mem_append_right _ h))
 have c0 : Cx (ob0 :: (ownB hp0_0 ++ [])) w (ob0 :: (ownB hp0_0 ++ L)) w := ⟨G.refl _ _, hL⟩
 unfold permit_Table_Park at h
 refine wp_seq ?_
 refine reg ?_
 refine s1 z0 (okAs cst) rfl fun a1 p2 s3 => ?_
 refine s1 p2.z (okAs cst) rfl fun a4 p5 s6 => ?_
 refine rN (thenN ?_)
 refine wp_seq ?_
 refine wp_block ?_
 refine wp_seq ?_
 refine reg ?_
 have s7 := p5.o (p2.o s0_0 rfl) rfl
 refine s1 p5.z (okMv s7) rfl fun a8 p9 s10 => ?_
 have s11 := p9.o (p5.o (p2.o s0_1 rfl) rfl) rfl
 refine s1 p9.z (okMv s11) rfl fun a12 p13 s14 => ?_
 have s15 := p13.o s10 rfl
 obtain ⟨t16, ht17, h⟩ := Option.bind_eq_some_iff.1 h
 refine lS (oCall p13.z Try.call30 (ag2 s15 s14) (c30 L w x0 ob0 hp0_0 x1 c0.lt (sepC (show ∀ x ∈ [ob0], x ∉ (ownB hp0_0 ++ L) from (in1 (na (D.bo (i := 0) (j := 1) rfl rfl rfl) (D.bl (i := 0) rfl)))) (sepC (show ∀ x ∈ ownB hp0_0, x ∉ L from (fun x hx => ((D.dl (i := 1) rfl) x hx))) sepN)) mob0 qhp0_0 _ ht17) rfl fun v21 a18 w19 hp22 p20 sp20 => ?_)
 obtain ⟨rfl, g25⟩ := hp22
 have cx26 := c0.ca g25
 refine s1 p20.z (okNot sp20) rfl fun a27 p28 s29 => ?_
 refine s1 p28.z (okAs s29) rfl fun a30 p31 s32 => ?_
 refine rN (thenN ?_)
 have s33 := p31.o (p28.o (p20.o (p13.o (p9.o s7 rfl) rfl) rfl) rfl) rfl
 have s34 := p31.o (p28.o (p20.o (p13.o s11 rfl) rfl) rfl) rfl
 have s35 := p31.o (p28.o (p20.o (p13.o (p9.o (p5.o s3 rfl) rfl) rfl) rfl) rfl) rfl
 have s36 := p31.o (p28.o (p20.o (p13.o (p9.o s6 rfl) rfl) rfl) rfl) rfl
 have pg37 : Pg _ [6, 7, 8, 9, 10, 11, 12] _ _ := ((((((((Pg.refl z0).st p2 rfl).st p5 rfl).st p9 rfl).st p13 rfl).st p20 rfl).st p28 rfl).st p31 rfl)
 refine cnd s32 (fun hb38 => ?_) (fun hb38 => ?_)
 ·replace h := (ifP hb38).symm.trans h
  refine wp_seq ?_
  refine reg ?_
  refine s1 pg37.z (okMkI Try.underlying36 cst _) rfl fun a39 p40 s41 => ?_
  refine s1 p40.z (okAs cst) rfl fun a42 p43 s44 => ?_
  have s45 := p43.o s41 rfl
  refine s1 p43.z (okAs s45) rfl fun a46 p47 s48 => ?_
  refine rN (thenN ?_)
  have s49 := p47.o s44 rfl
  obtain rfl := Option.some.inj h
  have m50 := mob0.g0 g25
  have q51 := qhp0_0.t0 g25.t0 g25
  exact wp_ret (blkR (thenR (ret2 p47.z Try.results36 (rvT s49) (rvT s48) ⟨_, rfl, (.iface 36 (.int .i64 4)), rfl, ErG.code, m50, q51, (sepC (show ∀ x ∈ [ob0], x ∉ (ownB hp0_0 ++ L) from (in1 (na (D.bo (i := 0) (j := 1) rfl rfl rfl) (D.bl (i := 0) rfl)))) (sepC (show ∀ x ∈ ownB hp0_0, x ∉ L from (fun x hx => ((D.dl (i := 1) rfl) x hx))) sepN)), (show ∀ b ∈ (ob0 :: (ownB hp0_0 ++ L)), b < w19.heap.size from cx26.lt), cx26.g⟩)))
 replace h := (ifN hb38).symm.trans h
 refine wp_seq ?_
 refine reg ?_
 refine s1 pg37.z (okMv s33) rfl fun a52 p53 s54 => ?_
 refine s1 p53.z (okNil s54) rfl fun a55 p56 s57 => ?_
 refine s1 p56.z (okFA (o' := 0) fo78_0 s57 rfl) rfl fun a58 p59 s60 => ?_
 have m61 := mob0.g0 g25
 refine s1 p59.z (okLd (j := 0) na75 s60 (m61.cl) rfl rfl) rfl fun a62 p63 s64 => ?_
 have s65 := p63.o (p59.o (p56.o (p53.o s34 rfl) rfl) rfl) rfl
 refine s1 p63.z (okMv s65) rfl fun a66 p67 s68 => ?_
 have s69 := p67.o s64 rfl
 have q70 := qhp0_0.t0 g25.t0 g25
 obtain ⟨y71, hy72, h⟩ := Option.bind_eq_some_iff.1 h
 obtain ⟨b73, cs75, r77, e78, nb79, k76⟩ := q70.at_ hy72
 obtain rfl := r77
 refine s1 p67.z (k76 Try.underlying75 Try.sizeOf59 s69 s68 _) rfl fun a80 p81 s82 => ?_
 refine s1 p81.z (okFA (o' := x1.toNat * 4 + 2) fo59_2 s82 rfl) rfl fun a83 p84 s85 => ?_
 refine s1 p84.z (okLd (j := 2) na4 s85 e78 rfl rfl) rfl fun a86 p87 s88 => ?_
 refine s1 p87.z (okMv s88) rfl fun a89 p90 s91 => ?_
 refine cutP 3 (fun a' => Pg Try.f36.ntmps [24, 25, 26] a89 a' ∧ a'.eval (.tmp 26) = .bool (y71.blocked || (decide (x2 < (-1))))) ?_ ?_
 ·rcases bf y71.blocked with hb92 | hb92
  ·have s93 := bv s91 hb92
   have s94 := p90.o (p87.o (p84.o (p81.o (p67.o (p63.o (p59.o (p56.o (p53.o (pg37.o s0_2 rfl) rfl) rfl) rfl) rfl) rfl) rfl) rfl) rfl) rfl
   refine s1g p90.z (okMv s94) rfl (yd p90.z rfl rfl s93) fun a95 p96 s97 => ?_
   have s98 := p96.o s93 rfl
   refine s1g p96.z (okLt s97 cst) rfl (yd p96.z rfl rfl s98) fun a99 p100 s101 => ?_
   have s102 := p100.o s98 rfl
   refine s1 p100.z (okPickF s102 s101) rfl fun a103 p104 s105 => ?_
   exact rN ⟨rfl, rfl, ((((Pg.refl p90.z).st p96 rfl).st p100 rfl).st p104 rfl), (orF hb92 s105)⟩
  ·have s106 := bv s91 hb92
   refine s1k p90.z rfl (yd p90.z rfl rfl s106) rfl fun a107 p108 s109 => ?_
   have s110 := p108.o s106 rfl
   refine s1k p108.z rfl (yd p108.z rfl rfl s110) rfl fun a111 p112 s113 => ?_
   have s114 := p112.o s110 rfl
   refine s1 p112.z (okPickT s114 cst) rfl fun a115 p116 s117 => ?_
   exact rN ⟨rfl, rfl, ((((Pg.refl p90.z).st p108 rfl).st p112 rfl).st p116 rfl), (orT hb92 s117)⟩
 rintro a118 ⟨pg119, s120⟩
 refine s1 pg119.z (okAs s120) rfl fun a121 p122 s123 => ?_
 refine rN (thenN ?_)
 have s124 := p122.o (pg119.o (p90.o (p87.o (p84.o (p81.o (p67.o s65 rfl) rfl) rfl) rfl) rfl) rfl) rfl
 have pg125 : Pg _ [14, 15, 16, 17, 18, 19, 20, 21, 22, 23, 24, 25, 26] _ _ := ((((((((((((Pg.refl pg37.z).st p53 rfl).st p56 rfl).st p59 rfl).st p63 rfl).st p67 rfl).st p81 rfl).st p84 rfl).st p87 rfl).st p90 rfl).tr pg119 rfl).st p122 rfl)
 refine cnd s123 (fun hb126 => ?_) (fun hb126 => ?_)
 ·replace h := (ifP hb126).symm.trans h
  refine wp_seq ?_
  refine reg ?_
  refine s1 pg125.z (okMkI Try.underlying36 cst _) rfl fun a127 p128 s129 => ?_
  refine s1 p128.z (okAs cst) rfl fun a130 p131 s132 => ?_
  have s133 := p131.o s129 rfl
  refine s1 p131.z (okAs s133) rfl fun a134 p135 s136 => ?_
  refine rN (thenN ?_)
  have s137 := p135.o s132 rfl
  obtain rfl := Option.some.inj h
  exact wp_ret (blkR (thenR (ret2 p135.z Try.results36 (rvT s137) (rvT s136) ⟨_, rfl, (.iface 36 (.int .i64 1)), rfl, ErG.code, m61, q70, (sepC (show ∀ x ∈ [ob0], x ∉ (ownB hp0_0 ++ L) from (in1 (na (D.bo (i := 0) (j := 1) rfl rfl rfl) (D.bl (i := 0) rfl)))) (sepC (show ∀ x ∈ ownB hp0_0, x ∉ L from (fun x hx => ((D.dl (i := 1) rfl) x hx))) sepN)), (show ∀ b ∈ (ob0 :: (ownB hp0_0 ++ L)), b < w19.heap.size from cx26.lt), cx26.g⟩)))
 replace h := (ifN hb126).symm.trans h
 refine wp_seq ?_
 refine reg ?_
 have s138 := pg125.o s33 rfl
 refine s1 pg125.z (okMv s138) rfl fun a139 p140 s141 => ?_
 refine s1 p140.z (okNil s141) rfl fun a142 p143 s144 => ?_
 refine s1 p143.z (okFA (o' := 0) fo78_0 s144 rfl) rfl fun a145 p146 s147 => ?_
 refine s1 p146.z (okLd (j := 0) na75 s147 (m61.cl) rfl rfl) rfl fun a148 p149 s150 => ?_
 have s151 := p149.o (p146.o (p143.o (p140.o s124 rfl) rfl) rfl) rfl
 refine s1 p149.z (okMv s151) rfl fun a152 p153 s154 => ?_
 have s155 := p153.o s150 rfl
 refine s1 p153.z (k76 Try.underlying75 Try.sizeOf59 s155 s154 _) rfl fun a156 p157 s158 => ?_
 refine s1 p157.z (okFA (o' := x1.toNat * 4) fo59_0 s158 rfl) rfl fun a159 p160 s161 => ?_
 refine s1 p160.z (okLd (j := 0) na4 s161 e78 rfl rfl) rfl fun a162 p163 s164 => ?_
 refine s1 p163.z (okAs s164) rfl fun a165 p166 s167 => ?_
 refine rN (thenN ?_)
 have s168 := p166.o (p163.o (p160.o (p157.o (p153.o s151 rfl) rfl) rfl) rfl) rfl
 have pg169 : Pg _ [28, 29, 30, 31, 32, 33, 34, 35, 36] _ _ := ((((((((((Pg.refl pg125.z).st p140 rfl).st p143 rfl).st p146 rfl).st p149 rfl).st p153 rfl).st p157 rfl).st p160 rfl).st p163 rfl).st p166 rfl)
 refine cnd s167 (fun hb170 => ?_) (fun hb170 => ?_)
 ·replace h := (ifP hb170).symm.trans h
  refine wp_seq ?_
  refine reg ?_
  have s171 := pg169.o s138 rfl
  refine s1 pg169.z (okMv s171) rfl fun a172 p173 s174 => ?_
  refine s1 p173.z (okNil s174) rfl fun a175 p176 s177 => ?_
  refine s1 p176.z (okFA (o' := 0) fo78_0 s177 rfl) rfl fun a178 p179 s180 => ?_
  refine s1 p179.z (okLd (j := 0) na75 s180 (m61.cl) rfl rfl) rfl fun a181 p182 s183 => ?_
  have s184 := p182.o (p179.o (p176.o (p173.o s168 rfl) rfl) rfl) rfl
  refine s1 p182.z (okMv s184) rfl fun a185 p186 s187 => ?_
  have s188 := p186.o s183 rfl
  refine s1 p186.z (k76 Try.underlying75 Try.sizeOf59 s188 s187 _) rfl fun a189 p190 s191 => ?_
  refine s1 p190.z (okFA (o' := x1.toNat * 4) fo59_0 s191 rfl) rfl fun a192 p193 s194 => ?_
  refine lS (oStoE (K := KTPark) (e' := ({ y71 with permit := false })) (vs := [.bool false]) (j := 0) p193.z s194 cst q70 hy72 nb79 e78 (fun _ h => (.tail _ (List.mem_append_left _ h))) rfl Try.sizeOf4 rfl one1 rfl rfl rfl rfl fun w195 q196 g197 => ?_)
  have cx198 := cx26.cs g197 (fun _ h => .inl (.tail _ (List.mem_append_left _ h)))
  refine rN (thenN ?_)
  refine wp_seq ?_
  refine reg ?_
  refine s1 p193.z (okAs cst) rfl fun a199 p200 s201 => ?_
  refine s1 p200.z (okAs cst) rfl fun a202 p203 s204 => ?_
  refine rN (thenN ?_)
  have s205 := p203.o s201 rfl
  obtain rfl := Option.some.inj h
  have m206 := m61.g g197 (D.bo (i := 0) (j := 1) rfl rfl rfl)
  exact wp_ret (blkR (thenR (ret2 p203.z Try.results36 (rvT s205) (rvT s204) ⟨_, rfl, .nilIface, rfl, ErG.nil, m206, q196, (sepC (show ∀ x ∈ [ob0], x ∉ (ownB hp0_0 ++ L) from (in1 (na (D.bo (i := 0) (j := 1) rfl rfl rfl) (D.bl (i := 0) rfl)))) (sepC (show ∀ x ∈ ownB hp0_0, x ∉ L from (fun x hx => ((D.dl (i := 1) rfl) x hx))) sepN)), (show ∀ b ∈ (ob0 :: (ownB hp0_0 ++ L)), b < w195.heap.size from cx198.lt), cx198.g⟩)))
 replace h := (ifN hb170).symm.trans h
 refine wp_seq ?_
 refine reg ?_
 have s207 := pg169.o s138 rfl
 refine s1 pg169.z (okMv s207) rfl fun a208 p209 s210 => ?_
 refine s1 p209.z (okNil s210) rfl fun a211 p212 s213 => ?_
 refine s1 p212.z (okFA (o' := 0) fo78_0 s213 rfl) rfl fun a214 p215 s216 => ?_
 refine s1 p215.z (okLd (j := 0) na75 s216 (m61.cl) rfl rfl) rfl fun a217 p218 s219 => ?_
 have s220 := p218.o (p215.o (p212.o (p209.o s168 rfl) rfl) rfl) rfl
 refine s1 p218.z (okMv s220) rfl fun a221 p222 s223 => ?_
 have s224 := p222.o s219 rfl
 refine s1 p222.z (k76 Try.underlying75 Try.sizeOf59 s224 s223 _) rfl fun a225 p226 s227 => ?_
 refine s1 p226.z (okFA (o' := x1.toNat * 4 + 1) fo59_1 s227 rfl) rfl fun a228 p229 s230 => ?_
 refine s1 p229.z (okLd (j := 1) na4 s230 e78 rfl rfl) rfl fun a231 p232 s233 => ?_
 refine s1 p232.z (okMv s233) rfl fun a234 p235 s236 => ?_
 obtain ⟨b237, hb238, h⟩ := Option.bind_eq_some_iff.1 h
 refine cutL 7 (fun a' w' => Pg Try.f36.ntmps [54, 55, 56, 57, 58, 59, 60] a234 a' ∧ a'.eval (.tmp 60) = .bool b237 ∧ G [] w19 w') ?_ ?_
 ·rcases bf y71.flag with hb239 | hb239
  ·have s240 := bv s236 hb239
   replace hb238 := (ifN hb239).symm.trans hb238
   clear h; have h := hb238; clear hb238
   have s241 := p235.o (p232.o (p229.o (p226.o (p222.o (p218.o (p215.o (p212.o (p209.o s207 rfl) rfl) rfl) rfl) rfl) rfl) rfl) rfl) rfl
   refine s1g p235.z (okMv s241) rfl (yd p235.z rfl rfl s240) fun a242 p243 s244 => ?_
   have s245 := p243.o s240 rfl
   refine s1g p243.z (okNil s244) rfl (yd p243.z rfl rfl s245) fun a246 p247 s248 => ?_
   have s249 := p247.o s245 rfl
   refine s1g p247.z (okFA (o' := 1) fo78_1 s248 rfl) rfl (yd p247.z rfl rfl s249) fun a250 p251 s252 => ?_
   have s253 := p251.o s249 rfl
   refine s1g p251.z (okLd (j := 1) na2 s252 (m61.cl) rfl rfl) rfl (yd p251.z rfl rfl s253) fun a254 p255 s256 => ?_
   have s257 := p255.o s253 rfl
   have s258 := p255.o (p251.o (p247.o (p243.o (p235.o (p232.o (p229.o (p226.o (p222.o (p218.o (p215.o (p212.o (p209.o (pg169.o (pg125.o (pg37.o s0_2 rfl) rfl) rfl) rfl) rfl) rfl) rfl) rfl) rfl) rfl) rfl) rfl) rfl) rfl) rfl) rfl
   refine s1g p255.z (okMv s258) rfl (yd p255.z rfl rfl s257) fun a259 p260 s261 => ?_
   have s262 := p260.o s257 rfl
   have s263 := p260.o s256 rfl
   obtain ⟨t264, ht265, h⟩ := Option.bind_eq_some_iff.1 h
   refine lG rfl (yd p260.z rfl rfl s262) (oCall p260.z Try.call39 (ag2 s263 s261) (c39 (ob0 :: (ownB hp0_0 ++ L)) w19 cx26.lt _ _ _ ht265) rfl fun v269 a266 w267 hp270 p268 sp268 => ?_)
   obtain ⟨rfl, g271⟩ := hp270
   have cx272 := cx26.ca g271
   have s273 := p268.o s262 rfl
   refine s1 p268.z (okPickF s273 sp268) rfl fun a274 p275 s276 => ?_
   obtain rfl := Option.some.inj h
   exact rN ⟨rfl, ((((((((Pg.refl p235.z).st p243 rfl).st p247 rfl).st p251 rfl).st p255 rfl).st p260 rfl).st p268 rfl).st p275 rfl), s276, g271⟩
  ·have s277 := bv s236 hb239
   replace hb238 := (ifP hb239).symm.trans hb238
   clear h; have h := hb238; clear hb238
   refine s1k p235.z rfl (yd p235.z rfl rfl s277) rfl fun a278 p279 s280 => ?_
   have s281 := p279.o s277 rfl
   refine s1k p279.z rfl (yd p279.z rfl rfl s281) rfl fun a282 p283 s284 => ?_
   have s285 := p283.o s281 rfl
   refine s1k p283.z rfl (yd p283.z rfl rfl s285) rfl fun a286 p287 s288 => ?_
   have s289 := p287.o s285 rfl
   refine s1k p287.z rfl (yd p287.z rfl rfl s289) rfl fun a290 p291 s292 => ?_
   have s293 := p291.o s289 rfl
   refine s1k p291.z rfl (yd p291.z rfl rfl s293) rfl fun a294 p295 s296 => ?_
   have s297 := p295.o s293 rfl
   refine s1k p295.z rfl (yd p295.z rfl rfl s297) rfl fun a298 p299 s300 => ?_
   have s301 := p299.o s297 rfl
   refine s1 p299.z (okPickT s301 cst) rfl fun a302 p303 s304 => ?_
   obtain rfl := Option.some.inj h
   exact rN ⟨rfl, ((((((((Pg.refl p235.z).st p279 rfl).st p283 rfl).st p287 rfl).st p291 rfl).st p295 rfl).st p299 rfl).st p303 rfl), s304, (G.refl _ _)⟩
 rintro a305 w308 ⟨pg306, s307, g309⟩
 have cx310 := cx26.ca g309
 refine s1 pg306.z (okAs s307) rfl fun a311 p312 s313 => ?_
 refine rN (thenN ?_)
 have s314 := p312.o (pg306.o (p235.o (p232.o (p229.o (p226.o (p222.o s220 rfl) rfl) rfl) rfl) rfl) rfl) rfl
 have pg315 : Pg _ [44, 45, 46, 47, 48, 49, 50, 51, 52, 53, 54, 55, 56, 57, 58, 59, 60] _ _ := ((((((((((((Pg.refl pg169.z).st p209 rfl).st p212 rfl).st p215 rfl).st p218 rfl).st p222 rfl).st p226 rfl).st p229 rfl).st p232 rfl).st p235 rfl).tr pg306 rfl).st p312 rfl)
 refine cnd s313 (fun hb316 => ?_) (fun hb316 => ?_)
 ·replace h := (ifP hb316).symm.trans h
  refine wp_seq ?_
  refine reg ?_
  refine s1 pg315.z (okAs cst) rfl fun a317 p318 s319 => ?_
  refine s1 p318.z (okAs cst) rfl fun a320 p321 s322 => ?_
  refine rN (thenN ?_)
  have s323 := p321.o s319 rfl
  obtain rfl := Option.some.inj h
  have m324 := m61.g0 g309
  have q325 := q70.t0 g309.t0 g309
  exact wp_ret (blkR (thenR (ret2 p321.z Try.results36 (rvT s323) (rvT s322) ⟨_, rfl, .nilIface, rfl, ErG.nil, m324, q325, (sepC (show ∀ x ∈ [ob0], x ∉ (ownB hp0_0 ++ L) from (in1 (na (D.bo (i := 0) (j := 1) rfl rfl rfl) (D.bl (i := 0) rfl)))) (sepC (show ∀ x ∈ ownB hp0_0, x ∉ L from (fun x hx => ((D.dl (i := 1) rfl) x hx))) sepN)), (show ∀ b ∈ (ob0 :: (ownB hp0_0 ++ L)), b < w308.heap.size from cx310.lt), cx310.g⟩)))
 replace h := (ifN hb316).symm.trans h
 refine wp_skip (blkN (thenN ?_))
 refine wp_seq ?_
 have q326 := q70.t0 g309.t0 g309
 have s399 := pg315.o (pg169.o (pg125.o s35 rfl) rfl) rfl
 have s400 := pg315.o (pg169.o (pg125.o s36 rfl) rfl) rfl
 have m401 := m61.g0 g309
 refine regJ (fun a' w' => Z Try.f36.ntmps a' ∧ a'.eval (.tmp 6) = .bool false ∧ a'.eval (.tmp 7) = .nilIface ∧ Bk w' ob0 (Tpermit_Table.C ({ x0 with l := ((x0.l.set x1.toNat ({ y71 with blocked := true })).set x1.toNat ({ y71 with blocked := true, deadline := x2 })) }) hp0_0) 78 ∧ OwnS KTPark 59 (ob0 :: (ownB hp0_0 ++ L)) w' hp0_0 ((x0.l.set x1.toNat ({ y71 with blocked := true })).set x1.toNat ({ y71 with blocked := true, deadline := x2 })) ∧ Cx (ob0 :: (ownB hp0_0 ++ [])) w (ob0 :: (ownB hp0_0 ++ L)) w' ∧ Tr (ob0 :: (ownB hp0_0 ++ L)) w308 (ob0 :: (ownB hp0_0 ++ L)) w') ?_ ?_
 ·refine regH (n := 17) [(3, fun w' => Cl w' ob0 0 [hp0_0]), (8, fun w' => Cl w' ob0 0 [hp0_0])] mixed rfl ?_
  have g402 := G.drew w308
  have cx403 := cx310.ca g402
  have s404 := pg315.o s207 rfl
  refine hTakeW (i := 0) rfl (by kernel_rfl) (by kernel_rfl) (by kernel_rfl) nrm (cond := fun _ => True) (.inl fun _ => trivial) pg315.z (wN rfl) (fun _ _ => okMv s404) trivial rfl fun a405 p406 sp406 => ?_
  refine hTakeW (i := 1) rfl (by kernel_rfl) (by kernel_rfl) (by kernel_rfl) nrm (cond := fun _ => True) (.inl fun _ => trivial) p406.z (wN rfl) (fun _ _ => okNil sp406) trivial rfl fun a407 p408 sp408 => ?_
  refine hTakeW (i := 2) rfl (by kernel_rfl) (by kernel_rfl) (by kernel_rfl) nrm (cond := fun _ => True) (.inl fun _ => trivial) p408.z (wN rfl) (fun _ _ => okFA (o' := 0) fo78_0 sp408 rfl) trivial rfl fun a409 p410 sp410 => ?_
  have m411 := m401.g0 g402
  refine hTakeW (i := 3) rfl (by kernel_rfl) (by kernel_rfl) (by kernel_rfl) nrm (.inr (.head _)) p410.z (wN rfl) (fun _ h => okLd (j := 0) na75 sp410 h rfl rfl) (m411.clp rfl) rfl fun a412 p413 sp413 => ?_
  have s414 := p413.o (p410.o (p408.o (p406.o s314 rfl) rfl) rfl) rfl
  refine hTakeW (i := 4) rfl (by kernel_rfl) (by kernel_rfl) (by kernel_rfl) nrm (cond := fun _ => True) (.inl fun _ => trivial) p413.z (wN rfl) (fun _ _ => okMv s414) trivial rfl fun a415 p416 sp416 => ?_
  have s417 := p416.o (p413.o (p410.o (p408.o (p406.o s404 rfl) rfl) rfl) rfl) rfl
  refine hTakeW (i := 5) rfl (by kernel_rfl) (by kernel_rfl) (by kernel_rfl) nrm (cond := fun _ => True) (.inl fun _ => trivial) p416.z (wN rfl) (fun _ _ => okMv s417) trivial rfl fun a418 p419 sp419 => ?_
  refine hTakeW (i := 6) rfl (by kernel_rfl) (by kernel_rfl) (by kernel_rfl) nrm (cond := fun _ => True) (.inl fun _ => trivial) p419.z (wN rfl) (fun _ _ => okNil sp419) trivial rfl fun a420 p421 sp421 => ?_
  refine hTakeW (i := 7) rfl (by kernel_rfl) (by kernel_rfl) (by kernel_rfl) nrm (cond := fun _ => True) (.inl fun _ => trivial) p421.z (wN rfl) (fun _ _ => okFA (o' := 0) fo78_0 sp421 rfl) trivial rfl fun a422 p423 sp423 => ?_
  refine hTakeW (i := 8) rfl (by kernel_rfl) (by kernel_rfl) (by kernel_rfl) nrm (.inr (.tail _ (.head _))) p423.z (wN rfl) (fun _ h => okLd (j := 0) na75 sp423 h rfl rfl) (m411.clp rfl) rfl fun a424 p425 sp425 => ?_
  have s426 := p425.o (p423.o (p421.o (p419.o (p416.o s414 rfl) rfl) rfl) rfl) rfl
  refine hTakeW (i := 9) rfl (by kernel_rfl) (by kernel_rfl) (by kernel_rfl) nrm (cond := fun _ => True) (.inl fun _ => trivial) p425.z (wN rfl) (fun _ _ => okMv s426) trivial rfl fun a427 p428 sp428 => ?_
  have s429 := p428.o (p425.o (p423.o (p421.o (p419.o (p416.o (p413.o (p410.o (p408.o (p406.o (pg315.o (pg169.o (pg125.o (pg37.o s0_2 rfl) rfl) rfl) rfl) rfl) rfl) rfl) rfl) rfl) rfl) rfl) rfl) rfl) rfl
  refine hTakeW (i := 10) rfl (by kernel_rfl) (by kernel_rfl) (by kernel_rfl) nrm (cond := fun _ => True) (.inl fun _ => trivial) p428.z (wN rfl) (fun _ _ => okMv s429) trivial rfl fun a430 p431 sp431 => ?_
  have s432 := p431.o (p428.o (p425.o (p423.o (p421.o (p419.o (p416.o sp413 rfl) rfl) rfl) rfl) rfl) rfl) rfl
  have s433 := p431.o (p428.o (p425.o (p423.o (p421.o (p419.o sp416 rfl) rfl) rfl) rfl) rfl) rfl
  refine hTakeW (i := 11) rfl (by kernel_rfl) (by kernel_rfl) (by kernel_rfl) nrm (cond := fun _ => True) (.inl fun _ => trivial) p431.z (wN rfl) (fun _ _ => k76 Try.underlying75 Try.sizeOf59 s432 s433 _) trivial rfl fun a434 p435 sp435 => ?_
  refine hTakeW (i := 12) rfl (by kernel_rfl) (by kernel_rfl) (by kernel_rfl) nrm (cond := fun _ => True) (.inl fun _ => trivial) p435.z (wN rfl) (fun _ _ => okFA (o' := x1.toNat * 4 + 2) fo59_2 sp435 rfl) trivial rfl fun a436 p437 sp437 => ?_
  have e438 := (e78.g0 g309).g0 g402
  have q439 := q326.t0 g402.t0 g402
  refine hOne (i := 13) (by kernel_rfl) rfl (oStoE (K := KTPark) (e' := ({ y71 with blocked := true })) (vs := [.bool true]) (j := 2) p437.z sp437 cst q439 hy72 nb79 e438 (fun _ h => (.tail _ (List.mem_append_left _ h))) rfl Try.sizeOf4 rfl one1 rfl rfl rfl rfl fun w440 q441 g442 => ?_)
  have cx443 := cx403.cs g442 (fun _ h => .inl (.tail _ (List.mem_append_left _ h)))
  refine ⟨⟨.inl (by kernel_rfl), .inl (by kernel_rfl), trivial⟩, ?_⟩
  have s444 := p437.o (p435.o (p431.o (p428.o sp425 rfl) rfl) rfl) rfl
  have s445 := p437.o (p435.o (p431.o sp428 rfl) rfl) rfl
  refine hTakeW (i := 14) rfl (by kernel_rfl) (by kernel_rfl) (by kernel_rfl) nrm (cond := fun _ => True) (.inl fun _ => trivial) p437.z (wN rfl) (fun _ _ => k76 Try.underlying75 Try.sizeOf59 s444 s445 _) trivial rfl fun a446 p447 sp447 => ?_
  refine hTakeW (i := 15) rfl (by kernel_rfl) (by kernel_rfl) (by kernel_rfl) nrm (cond := fun _ => True) (.inl fun _ => trivial) p447.z (wN rfl) (fun _ _ => okFA (o' := x1.toNat * 4 + 3) fo59_3 sp447 rfl) trivial rfl fun a448 p449 sp449 => ?_
  have s450 := p449.o (p447.o (p437.o (p435.o sp431 rfl) rfl) rfl) rfl
  obtain ⟨b451, cs452, r453, e454, nb455, k456⟩ := q441.at_ (ix_set hy72)
  obtain rfl : b73 = b451 := own1 nb79 nb455
  obtain rfl := r453
  have m460 := m411.g g442 (D.bo (i := 0) (j := 1) rfl rfl rfl)
  refine hOne (i := 16) (by kernel_rfl) rfl (oStoE (K := KTPark) (e' := ({ y71 with blocked := true, deadline := x2 })) (vs := [.int .i64 x2]) (j := 3) p449.z sp449 s450 q441 (ix_set hy72) nb79 e454 (fun _ h => (.tail _ (List.mem_append_left _ h))) rfl Try.sizeOf2 rfl one1 rfl rfl rfl rfl fun w457 q458 g459 => ?_)
  have cx461 := cx443.cs g459 (fun _ h => .inl (.tail _ (List.mem_append_left _ h)))
  refine ⟨⟨.inl (by kernel_rfl), .inl (by kernel_rfl), trivial⟩, ?_⟩
  have s462 := p449.o (p447.o (p437.o (p435.o (p431.o (p428.o (p425.o (p423.o (p421.o (p419.o (p416.o (p413.o (p410.o (p408.o (p406.o s399 rfl) rfl) rfl) rfl) rfl) rfl) rfl) rfl) rfl) rfl) rfl) rfl) rfl) rfl) rfl
  have s463 := p449.o (p447.o (p437.o (p435.o (p431.o (p428.o (p425.o (p423.o (p421.o (p419.o (p416.o (p413.o (p410.o (p408.o (p406.o s400 rfl) rfl) rfl) rfl) rfl) rfl) rfl) rfl) rfl) rfl) rfl) rfl) rfl) rfl) rfl
  have m464 := m460.g g459 (D.bo (i := 0) (j := 1) rfl rfl rfl)
  exact hDone (by kernel_rfl) ⟨rfl, p449.z, s462, s463, m464, q458, cx461, ((g402.t0.trans (g442.t (fun _ h => (.tail _ (List.mem_append_left _ h))))).trans (g459.t (fun _ h => (.tail _ (List.mem_append_left _ h)))))⟩
 rintro a465 w466 ⟨z467, s468, s469, m470, q471, cx472, t473⟩
 refine thenN ?_
 refine wp_seq ?_
 refine reg ?_
 refine s1 z467 (okAs cst) rfl fun a474 p475 s476 => ?_
 refine s1 p475.z (okAs cst) rfl fun a477 p478 s479 => ?_
 refine rN (thenN ?_)
 have s480 := p478.o s476 rfl
 obtain rfl := Option.some.inj h
 exact wp_ret (ret2 p478.z Try.results36 (rvT s480) (rvT s479) ⟨_, rfl, .nilIface, rfl, ErG.nil, m470, q471, (sepC (show ∀ x ∈ [ob0], x ∉ (ownB hp0_0 ++ L) from (in1 (na (D.bo (i := 0) (j := 1) rfl rfl rfl) (D.bl (i := 0) rfl)))) (sepC (show ∀ x ∈ ownB hp0_0, x ∉ L from (fun x hx => ((D.dl (i := 1) rfl) x hx))) sepN)), (show ∀ b ∈ (ob0 :: (ownB hp0_0 ++ L)), b < w466.heap.size from cx472.lt), cx472.g⟩)

set_option maxHeartbeats 4000000 in
set_option maxRecDepth 100000 in
theorem c44 (L : List Nat) (w : World) (x0 : Tpermit_Table) (ob0 : Nat) (hp0_0 : Value) (x1 : Int) (hL : ∀ b ∈ (ob0 :: (ownB hp0_0 ++ L)), b < w.heap.size) (D : Sep [[ob0], ownB hp0_0] L) (mob0 : Bk w ob0 (Tpermit_Table.C x0 hp0_0) 78) (qhp0_0 : OwnS KTPark 59 (ob0 :: (ownB hp0_0 ++ L)) w hp0_0 x0.l) (r : Tpermit_Table) (h : permit_Table_on x0 x1 = some r) : Calls Try.prog 44 #[ptr ob0 0, .int .i64 x1] w (fun e w' => ∃ v, e = .returned v ∧ v = .tuple #[] ∧ Bk w' ob0 (Tpermit_Table.C r hp0_0) 78 ∧ OwnS KTPark 59 (ob0 :: (ownB hp0_0 ++ L)) w' hp0_0 r.l ∧ Sep [[ob0], ownB hp0_0] L ∧ (∀ b ∈ (ob0 :: (ownB hp0_0 ++ L)), b < w'.heap.size) ∧ G (ob0 :: (ownB hp0_0 ++ [])) w w') := by
 refine enterF Try.func44 rfl rfl fun a0 z0 A => ?_
 have s0_0 := A 0 (ptr ob0 0) rfl
 have s0_1 := A 1 (.int .i64 x1) rfl
 clear A
 have hLb : ∀ b ∈ L, b < w.heap.size := fun b h => hL b (.tail _ (List.mem_append_right _ h))
 have c0 : Cx (ob0 :: (ownB hp0_0 ++ [])) w (ob0 :: (ownB hp0_0 ++ L)) w := ⟨G.refl _ _, hL⟩
 unfold permit_Table_on at h
 obtain ⟨y36, hy37, h⟩ := Option.bind_eq_some_iff.1 h
 obtain ⟨b38, cs40, r42, e43, nb44, k41⟩ := qhp0_0.at_ hy37
 obtain rfl := r42
 refine regJ (fun a' w' => Z Try.f44.ntmps a' ∧ Bk w' ob0 (Tpermit_Table.C ({ x0 with l := ((x0.l.set x1.toNat ({ y36 with blocked := false })).set x1.toNat ({ y36 with blocked := false, deadline := 0 })) }) hp0_0) 78 ∧ OwnS KTPark 59 (ob0 :: (ownB hp0_0 ++ L)) w' hp0_0 ((x0.l.set x1.toNat ({ y36 with blocked := false })).set x1.toNat ({ y36 with blocked := false, deadline := 0 })) ∧ Cx (ob0 :: (ownB hp0_0 ++ [])) w (ob0 :: (ownB hp0_0 ++ L)) w' ∧ Tr (ob0 :: (ownB hp0_0 ++ L)) w (ob0 :: (ownB hp0_0 ++ L)) w') ?_ ?_
 ·refine regH (n := 16) [(3, fun w' => Cl w' ob0 0 [hp0_0]), (8, fun w' => Cl w' ob0 0 [hp0_0])] mixed rfl ?_
  have g74 := G.drew w
  have cx75 := c0.ca g74
  refine hTakeW (i := 0) rfl (by kernel_rfl) (by kernel_rfl) (by kernel_rfl) nrm (cond := fun _ => True) (.inl fun _ => trivial) z0 (wN rfl) (fun _ _ => okMv s0_0) trivial rfl fun a76 p77 sp77 => ?_
  refine hTakeW (i := 1) rfl (by kernel_rfl) (by kernel_rfl) (by kernel_rfl) nrm (cond := fun _ => True) (.inl fun _ => trivial) p77.z (wN rfl) (fun _ _ => okNil sp77) trivial rfl fun a78 p79 sp79 => ?_
  refine hTakeW (i := 2) rfl (by kernel_rfl) (by kernel_rfl) (by kernel_rfl) nrm (cond := fun _ => True) (.inl fun _ => trivial) p79.z (wN rfl) (fun _ _ => okFA (o' := 0) fo78_0 sp79 rfl) trivial rfl fun a80 p81 sp81 => ?_
  have m82 := mob0.g0 g74
  refine hTakeW (i := 3) rfl (by kernel_rfl) (by kernel_rfl) (by kernel_rfl) nrm (.inr (.head _)) p81.z (wN rfl) (fun _ h => okLd (j := 0) na75 sp81 h rfl rfl) (m82.clp rfl) rfl fun a83 p84 sp84 => ?_
  have s85 := p84.o (p81.o (p79.o (p77.o s0_1 rfl) rfl) rfl) rfl
  refine hTakeW (i := 4) rfl (by kernel_rfl) (by kernel_rfl) (by kernel_rfl) nrm (cond := fun _ => True) (.inl fun _ => trivial) p84.z (wN rfl) (fun _ _ => okMv s85) trivial rfl fun a86 p87 sp87 => ?_
  have s88 := p87.o (p84.o (p81.o (p79.o (p77.o s0_0 rfl) rfl) rfl) rfl) rfl
  refine hTakeW (i := 5) rfl (by kernel_rfl) (by kernel_rfl) (by kernel_rfl) nrm (cond := fun _ => True) (.inl fun _ => trivial) p87.z (wN rfl) (fun _ _ => okMv s88) trivial rfl fun a89 p90 sp90 => ?_
  refine hTakeW (i := 6) rfl (by kernel_rfl) (by kernel_rfl) (by kernel_rfl) nrm (cond := fun _ => True) (.inl fun _ => trivial) p90.z (wN rfl) (fun _ _ => okNil sp90) trivial rfl fun a91 p92 sp92 => ?_
  refine hTakeW (i := 7) rfl (by kernel_rfl) (by kernel_rfl) (by kernel_rfl) nrm (cond := fun _ => True) (.inl fun _ => trivial) p92.z (wN rfl) (fun _ _ => okFA (o' := 0) fo78_0 sp92 rfl) trivial rfl fun a93 p94 sp94 => ?_
  refine hTakeW (i := 8) rfl (by kernel_rfl) (by kernel_rfl) (by kernel_rfl) nrm (.inr (.tail _ (.head _))) p94.z (wN rfl) (fun _ h => okLd (j := 0) na75 sp94 h rfl rfl) (m82.clp rfl) rfl fun a95 p96 sp96 => ?_
  have s97 := p96.o (p94.o (p92.o (p90.o (p87.o s85 rfl) rfl) rfl) rfl) rfl
  refine hTakeW (i := 9) rfl (by kernel_rfl) (by kernel_rfl) (by kernel_rfl) nrm (cond := fun _ => True) (.inl fun _ => trivial) p96.z (wN rfl) (fun _ _ => okMv s97) trivial rfl fun a98 p99 sp99 => ?_
  have s100 := p99.o (p96.o (p94.o (p92.o (p90.o (p87.o sp84 rfl) rfl) rfl) rfl) rfl) rfl
  have s101 := p99.o (p96.o (p94.o (p92.o (p90.o sp87 rfl) rfl) rfl) rfl) rfl
  refine hTakeW (i := 10) rfl (by kernel_rfl) (by kernel_rfl) (by kernel_rfl) nrm (cond := fun _ => True) (.inl fun _ => trivial) p99.z (wN rfl) (fun _ _ => k41 Try.underlying75 Try.sizeOf59 s100 s101 _) trivial rfl fun a109 p110 sp110 => ?_
  refine hTakeW (i := 11) rfl (by kernel_rfl) (by kernel_rfl) (by kernel_rfl) nrm (cond := fun _ => True) (.inl fun _ => trivial) p110.z (wN rfl) (fun _ _ => okFA (o' := x1.toNat * 4 + 2) fo59_2 sp110 rfl) trivial rfl fun a111 p112 sp112 => ?_
  have q113 := qhp0_0.t0 g74.t0 g74
  refine hOne (i := 12) (by kernel_rfl) rfl (oStoE (K := KTPark) (e' := ({ y36 with blocked := false })) (vs := [.bool false]) (j := 2) p112.z sp112 cst q113 hy37 nb44 e43 (fun _ h => (.tail _ (List.mem_append_left _ h))) rfl Try.sizeOf4 rfl one1 rfl rfl rfl rfl fun w114 q115 g116 => ?_)
  have cx117 := cx75.cs g116 (fun _ h => .inl (.tail _ (List.mem_append_left _ h)))
  refine ⟨⟨.inl (by kernel_rfl), .inl (by kernel_rfl), trivial⟩, ?_⟩
  have s118 := p112.o (p110.o (p99.o sp96 rfl) rfl) rfl
  have s119 := p112.o (p110.o sp99 rfl) rfl
  refine hTakeW (i := 13) rfl (by kernel_rfl) (by kernel_rfl) (by kernel_rfl) nrm (cond := fun _ => True) (.inl fun _ => trivial) p112.z (wN rfl) (fun _ _ => k41 Try.underlying75 Try.sizeOf59 s118 s119 _) trivial rfl fun a120 p121 sp121 => ?_
  refine hTakeW (i := 14) rfl (by kernel_rfl) (by kernel_rfl) (by kernel_rfl) nrm (cond := fun _ => True) (.inl fun _ => trivial) p121.z (wN rfl) (fun _ _ => okFA (o' := x1.toNat * 4 + 3) fo59_3 sp121 rfl) trivial rfl fun a122 p123 sp123 => ?_
  obtain ⟨b124, cs125, r126, e127, nb128, k129⟩ := q115.at_ (ix_set hy37)
  obtain rfl : b38 = b124 := own1 nb44 nb128
  obtain rfl := r126
  have m133 := m82.g g116 (D.bo (i := 0) (j := 1) rfl rfl rfl)
  refine hOne (i := 15) (by kernel_rfl) rfl (oStoE (K := KTPark) (e' := ({ y36 with blocked := false, deadline := 0 })) (vs := [.int .i64 0]) (j := 3) p123.z sp123 cst q115 (ix_set hy37) nb44 e127 (fun _ h => (.tail _ (List.mem_append_left _ h))) rfl Try.sizeOf2 rfl one1 rfl rfl rfl rfl fun w130 q131 g132 => ?_)
  have cx134 := cx117.cs g132 (fun _ h => .inl (.tail _ (List.mem_append_left _ h)))
  refine ⟨⟨.inl (by kernel_rfl), .inl (by kernel_rfl), trivial⟩, ?_⟩
  have m135 := m133.g g132 (D.bo (i := 0) (j := 1) rfl rfl rfl)
  exact hDone (by kernel_rfl) ⟨rfl, p123.z, m135, q131, cx134, ((g74.t0.trans (g116.t (fun _ h => (.tail _ (List.mem_append_left _ h))))).trans (g132.t (fun _ h => (.tail _ (List.mem_append_left _ h)))))⟩
 rintro a136 w137 ⟨z138, m139, q140, cx141, t142⟩
 obtain rfl := Option.some.inj h
 refine ret0n z138 Try.results44 ?_
 exact ⟨_, rfl, rfl, m139, q140, (sepC (show ∀ x ∈ [ob0], x ∉ (ownB hp0_0 ++ L) from (in1 (na (D.bo (i := 0) (j := 1) rfl rfl rfl) (D.bl (i := 0) rfl)))) (sepC (show ∀ x ∈ ownB hp0_0, x ∉ L from (fun x hx => ((D.dl (i := 1) rfl) x hx))) sepN)), (show ∀ b ∈ (ob0 :: (ownB hp0_0 ++ L)), b < w137.heap.size from cx141.lt), cx141.g⟩

set_option maxHeartbeats 4000000 in
set_option maxRecDepth 100000 in
theorem c40 (L : List Nat) (w : World) (x0 : Tpermit_Table) (ob0 : Nat) (hp0_0 : Value) (x1 : Int) (hL : ∀ b ∈ (ob0 :: (ownB hp0_0 ++ L)), b < w.heap.size) (D : Sep [[ob0], ownB hp0_0] L) (mob0 : Bk w ob0 (Tpermit_Table.C x0 hp0_0) 78) (qhp0_0 : OwnS KTPark 59 (ob0 :: (ownB hp0_0 ++ L)) w hp0_0 x0.l) (r : Er × Tpermit_Table) (h : permit_Table_Unpark x0 x1 = some r) : Calls Try.prog 40 #[ptr ob0 0, .int .i64 x1] w (fun e w' => ∃ v, e = .returned v ∧ ∃ u0_0, v = u0_0 ∧ ErG 36 0 (ob0 :: (ownB hp0_0 ++ L)) w' u0_0 r.1 ∧ Bk w' ob0 (Tpermit_Table.C r.2 hp0_0) 78 ∧ OwnS KTPark 59 (ob0 :: (ownB hp0_0 ++ L)) w' hp0_0 r.2.l ∧ Sep [[ob0], ownB hp0_0] L ∧ (∀ b ∈ (ob0 :: (ownB hp0_0 ++ L)), b < w'.heap.size) ∧ G (ob0 :: (ownB hp0_0 ++ [])) w w') := by
 refine enterF Try.func40 rfl rfl fun a0 z0 A => ?_
 have s0_0 := A 0 (ptr ob0 0) rfl
 have s0_1 := A 1 (.int .i64 x1) rfl
 clear A
 have hLb : ∀ b ∈ L, b < w.heap.size := fun b h => hL b (.tail _ (List.mem_append_right _ h))
 have c0 : Cx (ob0 :: (ownB hp0_0 ++ [])) w (ob0 :: (ownB hp0_0 ++ L)) w := ⟨G.refl _ _, hL⟩
 unfold permit_Table_Unpark at h
 refine wp_seq ?_
 refine reg ?_
 refine s1 z0 (okAs cst) rfl fun a1 p2 s3 => ?_
 refine rN (thenN ?_)
 refine wp_seq ?_
 refine wp_seq ?_
 refine reg ?_
 have s4 := p2.o s0_0 rfl
 refine s1 p2.z (okMv s4) rfl fun a5 p6 s7 => ?_
 have s8 := p6.o (p2.o s0_1 rfl) rfl
 refine s1 p6.z (okMv s8) rfl fun a9 p10 s11 => ?_
 have s12 := p10.o s7 rfl
 obtain ⟨t13, ht14, h⟩ := Option.bind_eq_some_iff.1 h
 refine lS (oCall p10.z Try.call30 (ag2 s12 s11) (c30 L w x0 ob0 hp0_0 x1 c0.lt (sepC (show ∀ x ∈ [ob0], x ∉ (ownB hp0_0 ++ L) from (in1 (na (D.bo (i := 0) (j := 1) rfl rfl rfl) (D.bl (i := 0) rfl)))) (sepC (show ∀ x ∈ ownB hp0_0, x ∉ L from (fun x hx => ((D.dl (i := 1) rfl) x hx))) sepN)) mob0 qhp0_0 _ ht14) rfl fun v18 a15 w16 hp19 p17 sp17 => ?_)
 obtain ⟨rfl, g22⟩ := hp19
 have cx23 := c0.ca g22
 refine s1 p17.z (okNot sp17) rfl fun a24 p25 s26 => ?_
 refine rN (thenN ?_)
 have s27 := p25.o (p17.o (p10.o (p6.o s4 rfl) rfl) rfl) rfl
 have s28 := p25.o (p17.o (p10.o s8 rfl) rfl) rfl
 have s29 := p25.o (p17.o (p10.o (p6.o s3 rfl) rfl) rfl) rfl
 have pg30 : Pg _ [4, 5, 6, 7, 8] _ _ := ((((((Pg.refl z0).st p2 rfl).st p6 rfl).st p10 rfl).st p17 rfl).st p25 rfl)
 refine cnd s26 (fun hb31 => ?_) (fun hb31 => ?_)
 ·replace h := (ifP hb31).symm.trans h
  refine wp_seq ?_
  refine reg ?_
  refine s1 pg30.z (okMkI Try.underlying36 cst _) rfl fun a32 p33 s34 => ?_
  refine s1 p33.z (okAs s34) rfl fun a35 p36 s37 => ?_
  refine rN (thenN ?_)
  obtain rfl := Option.some.inj h
  have m38 := mob0.g0 g22
  have q39 := qhp0_0.t0 g22.t0 g22
  exact wp_ret (thenR (ret1 p36.z Try.results40 (rvT s37) ⟨_, rfl, (.iface 36 (.int .i64 4)), rfl, ErG.code, m38, q39, (sepC (show ∀ x ∈ [ob0], x ∉ (ownB hp0_0 ++ L) from (in1 (na (D.bo (i := 0) (j := 1) rfl rfl rfl) (D.bl (i := 0) rfl)))) (sepC (show ∀ x ∈ ownB hp0_0, x ∉ L from (fun x hx => ((D.dl (i := 1) rfl) x hx))) sepN)), (show ∀ b ∈ (ob0 :: (ownB hp0_0 ++ L)), b < w16.heap.size from cx23.lt), cx23.g⟩))
 replace h := (ifN hb31).symm.trans h
 refine wp_skip (thenN ?_)
 refine wp_seq ?_
 refine wp_seq ?_
 refine reg ?_
 refine s1 pg30.z (okMv s27) rfl fun a40 p41 s42 => ?_
 refine s1 p41.z (okNil s42) rfl fun a43 p44 s45 => ?_
 refine s1 p44.z (okFA (o' := 0) fo78_0 s45 rfl) rfl fun a46 p47 s48 => ?_
 have m49 := mob0.g0 g22
 refine s1 p47.z (okLd (j := 0) na75 s48 (m49.cl) rfl rfl) rfl fun a50 p51 s52 => ?_
 have s53 := p51.o (p47.o (p44.o (p41.o s28 rfl) rfl) rfl) rfl
 refine s1 p51.z (okMv s53) rfl fun a54 p55 s56 => ?_
 have s57 := p55.o s52 rfl
 have q58 := qhp0_0.t0 g22.t0 g22
 obtain ⟨y59, hy60, h⟩ := Option.bind_eq_some_iff.1 h
 obtain ⟨b61, cs63, r65, e66, nb67, k64⟩ := q58.at_ hy60
 obtain rfl := r65
 refine s1 p55.z (k64 Try.underlying75 Try.sizeOf59 s57 s56 _) rfl fun a68 p69 s70 => ?_
 refine s1 p69.z (okFA (o' := x1.toNat * 4 + 2) fo59_2 s70 rfl) rfl fun a71 p72 s73 => ?_
 refine s1 p72.z (okLd (j := 2) na4 s73 e66 rfl rfl) rfl fun a74 p75 s76 => ?_
 refine s1 p75.z (okNot s76) rfl fun a77 p78 s79 => ?_
 refine rN (thenN ?_)
 have s80 := p78.o (p75.o (p72.o (p69.o (p55.o s53 rfl) rfl) rfl) rfl) rfl
 have pg81 : Pg _ [10, 11, 12, 13, 14, 15, 16, 17, 18] _ _ := ((((((((((Pg.refl pg30.z).st p41 rfl).st p44 rfl).st p47 rfl).st p51 rfl).st p55 rfl).st p69 rfl).st p72 rfl).st p75 rfl).st p78 rfl)
 refine cnd s79 (fun hb82 => ?_) (fun hb82 => ?_)
 ·replace h := (ifP hb82).symm.trans h
  refine reg ?_
  have s83 := pg81.o s27 rfl
  refine s1 pg81.z (okMv s83) rfl fun a84 p85 s86 => ?_
  refine s1 p85.z (okNil s86) rfl fun a87 p88 s89 => ?_
  refine s1 p88.z (okFA (o' := 0) fo78_0 s89 rfl) rfl fun a90 p91 s92 => ?_
  refine s1 p91.z (okLd (j := 0) na75 s92 (m49.cl) rfl rfl) rfl fun a93 p94 s95 => ?_
  have s96 := p94.o (p91.o (p88.o (p85.o s80 rfl) rfl) rfl) rfl
  refine s1 p94.z (okMv s96) rfl fun a97 p98 s99 => ?_
  have s100 := p98.o s95 rfl
  refine s1 p98.z (k64 Try.underlying75 Try.sizeOf59 s100 s99 _) rfl fun a101 p102 s103 => ?_
  refine s1 p102.z (okFA (o' := x1.toNat * 4) fo59_0 s103 rfl) rfl fun a104 p105 s106 => ?_
  refine lS (oStoE (K := KTPark) (e' := ({ y59 with permit := true })) (vs := [.bool true]) (j := 0) p105.z s106 cst q58 hy60 nb67 e66 (fun _ h => (.tail _ (List.mem_append_left _ h))) rfl Try.sizeOf4 rfl one1 rfl rfl rfl rfl fun w107 q108 g109 => ?_)
  have cx110 := cx23.cs g109 (fun _ h => .inl (.tail _ (List.mem_append_left _ h)))
  refine rN (thenN ?_)
  refine wp_seq ?_
  refine reg ?_
  have s111 := p105.o (p102.o (p98.o (p94.o (p91.o (p88.o (p85.o s83 rfl) rfl) rfl) rfl) rfl) rfl) rfl
  refine s1 p105.z (okMv s111) rfl fun a112 p113 s114 => ?_
  have s115 := p113.o (p105.o (p102.o (p98.o s96 rfl) rfl) rfl) rfl
  refine s1 p113.z (okMv s115) rfl fun a116 p117 s118 => ?_
  have s119 := p117.o s114 rfl
  have m120 := m49.g g109 (D.bo (i := 0) (j := 1) rfl rfl rfl)
  obtain ⟨t121, ht122, h⟩ := Option.bind_eq_some_iff.1 h
  refine lS (oCall p117.z Try.call44 (ag2 s119 s118) (c44 L w107 ({ x0 with l := (x0.l.set x1.toNat ({ y59 with permit := true })) }) ob0 hp0_0 x1 cx110.lt (sepC (show ∀ x ∈ [ob0], x ∉ (ownB hp0_0 ++ L) from (in1 (na (D.bo (i := 0) (j := 1) rfl rfl rfl) (D.bl (i := 0) rfl)))) (sepC (show ∀ x ∈ ownB hp0_0, x ∉ L from (fun x hx => ((D.dl (i := 1) rfl) x hx))) sepN)) m120 q108 _ ht122) rfl fun v126 a123 w124 hp127 p125 sp125 => ?_)
  obtain ⟨rfl, m128, q129, D130, lt131, g132⟩ := hp127
  have hs133 : ∀ i ∈ (ob0 :: (ownB hp0_0 ++ [])), i ∈ (ob0 :: (ownB hp0_0 ++ [])) ∨ w.heap.size ≤ i := (memC (.inl (.head _)) (memA (fun _ h => .inl (.tail _ (List.mem_append_left _ h))) memN))
  have hs134 : ∀ i ∈ (ob0 :: (ownB hp0_0 ++ [])), i ∈ (ob0 :: (ownB hp0_0 ++ L)) := (memC (.head _) (memA (fun _ h => (.tail _ (List.mem_append_left _ h))) memN))
  have t135 : Tr (ob0 :: (ownB hp0_0 ++ L)) w107 (ob0 :: (ownB hp0_0 ++ L)) w124 := G.tC g132 hs134 (memC (.inl (.head _)) (memA (fun _ h => .inl (.tail _ (List.mem_append_left _ h))) (fun i h => .inl ((.tail _ (List.mem_append_right _ h))))))
  have cx136 := cx110.gs g132 hs133 lt131
  refine rN (thenN ?_)
  refine wp_seq ?_
  refine reg ?_
  refine s1 p125.z (okAs cst) rfl fun a137 p138 s139 => ?_
  refine rN (thenN ?_)
  obtain rfl := Option.some.inj h
  exact wp_ret (ret1 p138.z Try.results40 (rvT s139) ⟨_, rfl, .nilIface, rfl, ErG.nil, m128, q129, (sepC (show ∀ x ∈ [ob0], x ∉ (ownB hp0_0 ++ L) from (in1 (na (D.bo (i := 0) (j := 1) rfl rfl rfl) (D.bl (i := 0) rfl)))) (sepC (show ∀ x ∈ ownB hp0_0, x ∉ L from (fun x hx => ((D.dl (i := 1) rfl) x hx))) sepN)), (show ∀ b ∈ (ob0 :: (ownB hp0_0 ++ L)), b < w124.heap.size from cx136.lt), cx136.g⟩)
 replace h := (ifN hb82).symm.trans h
 refine wp_skip (thenN ?_)
 refine wp_seq ?_
 refine reg ?_
 have s140 := pg81.o s27 rfl
 refine s1 pg81.z (okMv s140) rfl fun a141 p142 s143 => ?_
 have s144 := p142.o s80 rfl
 refine s1 p142.z (okMv s144) rfl fun a145 p146 s147 => ?_
 have s148 := p146.o s143 rfl
 obtain ⟨t149, ht150, h⟩ := Option.bind_eq_some_iff.1 h
 refine lS (oCall p146.z Try.call44 (ag2 s148 s147) (c44 L w16 x0 ob0 hp0_0 x1 cx23.lt (sepC (show ∀ x ∈ [ob0], x ∉ (ownB hp0_0 ++ L) from (in1 (na (D.bo (i := 0) (j := 1) rfl rfl rfl) (D.bl (i := 0) rfl)))) (sepC (show ∀ x ∈ ownB hp0_0, x ∉ L from (fun x hx => ((D.dl (i := 1) rfl) x hx))) sepN)) m49 q58 _ ht150) rfl fun v154 a151 w152 hp155 p153 sp153 => ?_)
 obtain ⟨rfl, m156, q157, D158, lt159, g160⟩ := hp155
 have hs161 : ∀ i ∈ (ob0 :: (ownB hp0_0 ++ [])), i ∈ (ob0 :: (ownB hp0_0 ++ [])) ∨ w.heap.size ≤ i := (memC (.inl (.head _)) (memA (fun _ h => .inl (.tail _ (List.mem_append_left _ h))) memN))
 have hs162 : ∀ i ∈ (ob0 :: (ownB hp0_0 ++ [])), i ∈ (ob0 :: (ownB hp0_0 ++ L)) := (memC (.head _) (memA (fun _ h => (.tail _ (List.mem_append_left _ h))) memN))
 have t163 : Tr (ob0 :: (ownB hp0_0 ++ L)) w16 (ob0 :: (ownB hp0_0 ++ L)) w152 := G.tC g160 hs162 (memC (.inl (.head _)) (memA (fun _ h => .inl (.tail _ (List.mem_append_left _ h))) (fun i h => .inl ((.tail _ (List.mem_append_right _ h))))))
 have cx164 := cx23.gs g160 hs161 lt159
 refine rN (thenN ?_)
 refine wp_seq ?_
 refine reg ?_
 refine s1 p153.z (okAs cst) rfl fun a165 p166 s167 => ?_
 refine rN (thenN ?_)
 obtain rfl := Option.some.inj h
 exact wp_ret (ret1 p166.z Try.results40 (rvT s167) ⟨_, rfl, .nilIface, rfl, ErG.nil, m156, q157, (sepC (show ∀ x ∈ [ob0], x ∉ (ownB hp0_0 ++ L) from (in1 (na (D.bo (i := 0) (j := 1) rfl rfl rfl) (D.bl (i := 0) rfl)))) (sepC (show ∀ x ∈ ownB hp0_0, x ∉ L from (fun x hx => ((D.dl (i := 1) rfl) x hx))) sepN)), (show ∀ b ∈ (ob0 :: (ownB hp0_0 ++ L)), b < w152.heap.size from cx164.lt), cx164.g⟩)

set_option maxHeartbeats 4000000 in
set_option maxRecDepth 100000 in
theorem c41 (L : List Nat) (w : World) (x0 : Tpermit_Table) (ob0 : Nat) (hp0_0 : Value) (hL : ∀ b ∈ (ob0 :: (ownB hp0_0 ++ L)), b < w.heap.size) (D : Sep [[ob0], ownB hp0_0] L) (mob0 : Bk w ob0 (Tpermit_Table.C x0 hp0_0) 78) (qhp0_0 : OwnS KTPark 59 (ob0 :: (ownB hp0_0 ++ L)) w hp0_0 x0.l) (r : Int) (h : permit_Table_Now x0 = some r) : Calls Try.prog 41 #[ptr ob0 0] w (fun e w' => ∃ v, e = .returned v ∧ v = .int .i64 r ∧ G ([] : List Nat) w w') := by
 refine enterF Try.func41 rfl rfl fun a0 z0 A => ?_
 have s0_0 := A 0 (ptr ob0 0) rfl
 clear A
 have hLb : ∀ b ∈ L, b < w.heap.size := fun b h => hL b (.tail _ (List.mem_append_right _ h))
 have c0 : Cx ([] : List Nat) w (ob0 :: (ownB hp0_0 ++ L)) w := ⟨G.refl _ _, hL⟩
 unfold permit_Table_Now at h
 refine wp_seq ?_
 refine reg ?_
 refine s1 z0 (okAs cst) rfl fun a1 p2 s3 => ?_
 refine rN (thenN ?_)
 refine wp_seq ?_
 refine reg ?_
 have s4 := p2.o s0_0 rfl
 refine s1 p2.z (okMv s4) rfl fun a5 p6 s7 => ?_
 refine s1 p6.z (okNil s7) rfl fun a8 p9 s10 => ?_
 refine s1 p9.z (okFA (o' := 1) fo78_1 s10 rfl) rfl fun a11 p12 s13 => ?_
 refine s1 p12.z (okLd (j := 1) na2 s13 (mob0.cl) rfl rfl) rfl fun a14 p15 s16 => ?_
 refine s1 p15.z (okAs s16) rfl fun a17 p18 s19 => ?_
 refine rN (thenN ?_)
 obtain rfl := Option.some.inj h
 exact wp_ret (ret1 p18.z Try.results41 (rvT s19) ⟨_, rfl, rfl, c0.g⟩)

set_option maxHeartbeats 4000000 in
set_option maxRecDepth 100000 in
theorem c42 (L : List Nat) (w : World) (x0 : Tpermit_Table) (ob0 : Nat) (hp0_0 : Value) (x1 : Int) (hL : ∀ b ∈ (ob0 :: (ownB hp0_0 ++ L)), b < w.heap.size) (D : Sep [[ob0], ownB hp0_0] L) (mob0 : Bk w ob0 (Tpermit_Table.C x0 hp0_0) 78) (qhp0_0 : OwnS KTPark 59 (ob0 :: (ownB hp0_0 ++ L)) w hp0_0 x0.l) (r : Bool × Er × Tpermit_Table) (h : permit_Table_Clear x0 x1 = some r) : Calls Try.prog 42 #[ptr ob0 0, .int .i64 x1] w (fun e w' => ∃ v, e = .returned v ∧ ∃ u1_0, v = .tuple #[.bool r.1, u1_0] ∧ ErG 36 0 (ob0 :: (ownB hp0_0 ++ L)) w' u1_0 r.2.1 ∧ Bk w' ob0 (Tpermit_Table.C r.2.2 hp0_0) 78 ∧ OwnS KTPark 59 (ob0 :: (ownB hp0_0 ++ L)) w' hp0_0 r.2.2.l ∧ Sep [[ob0], ownB hp0_0] L ∧ (∀ b ∈ (ob0 :: (ownB hp0_0 ++ L)), b < w'.heap.size) ∧ G (ob0 :: (ownB hp0_0 ++ [])) w w') := by
 refine enterF Try.func42 rfl rfl fun a0 z0 A => ?_
 have s0_0 := A 0 (ptr ob0 0) rfl
 have s0_1 := A 1 (.int .i64 x1) rfl
 clear A
 have hLb : ∀ b ∈ L, b < w.heap.size := fun b h => hL b (.tail _ (List.mem_append_right _ h))
 have c0 : Cx (ob0 :: (ownB hp0_0 ++ [])) w (ob0 :: (ownB hp0_0 ++ L)) w := ⟨G.refl _ _, hL⟩
 unfold permit_Table_Clear at h
 refine wp_seq ?_
 refine reg ?_
 refine s1 z0 (okAs cst) rfl fun a1 p2 s3 => ?_
 refine s1 p2.z (okAs cst) rfl fun a4 p5 s6 => ?_
 refine rN (thenN ?_)
 refine wp_seq ?_
 refine wp_seq ?_
 refine reg ?_
 have s7 := p5.o (p2.o s0_0 rfl) rfl
 refine s1 p5.z (okMv s7) rfl fun a8 p9 s10 => ?_
 have s11 := p9.o (p5.o (p2.o s0_1 rfl) rfl) rfl
 refine s1 p9.z (okMv s11) rfl fun a12 p13 s14 => ?_
 have s15 := p13.o s10 rfl
 obtain ⟨t16, ht17, h⟩ := Option.bind_eq_some_iff.1 h
 refine lS (oCall p13.z Try.call30 (ag2 s15 s14) (c30 L w x0 ob0 hp0_0 x1 c0.lt (sepC (show ∀ x ∈ [ob0], x ∉ (ownB hp0_0 ++ L) from (in1 (na (D.bo (i := 0) (j := 1) rfl rfl rfl) (D.bl (i := 0) rfl)))) (sepC (show ∀ x ∈ ownB hp0_0, x ∉ L from (fun x hx => ((D.dl (i := 1) rfl) x hx))) sepN)) mob0 qhp0_0 _ ht17) rfl fun v21 a18 w19 hp22 p20 sp20 => ?_)
 obtain ⟨rfl, g25⟩ := hp22
 have cx26 := c0.ca g25
 refine s1 p20.z (okNot sp20) rfl fun a27 p28 s29 => ?_
 refine rN (thenN ?_)
 have s30 := p28.o (p20.o (p13.o (p9.o s7 rfl) rfl) rfl) rfl
 have s31 := p28.o (p20.o (p13.o s11 rfl) rfl) rfl
 have s32 := p28.o (p20.o (p13.o (p9.o (p5.o s3 rfl) rfl) rfl) rfl) rfl
 have s33 := p28.o (p20.o (p13.o (p9.o s6 rfl) rfl) rfl) rfl
 have pg34 : Pg _ [4, 5, 7, 8, 9, 10] _ _ := (((((((Pg.refl z0).st p2 rfl).st p5 rfl).st p9 rfl).st p13 rfl).st p20 rfl).st p28 rfl)
 refine cnd s29 (fun hb35 => ?_) (fun hb35 => ?_)
 ·replace h := (ifP hb35).symm.trans h
  refine wp_seq ?_
  refine reg ?_
  refine s1 pg34.z (okMkI Try.underlying36 cst _) rfl fun a36 p37 s38 => ?_
  refine s1 p37.z (okAs cst) rfl fun a39 p40 s41 => ?_
  have s42 := p40.o s38 rfl
  refine s1 p40.z (okAs s42) rfl fun a43 p44 s45 => ?_
  refine rN (thenN ?_)
  have s46 := p44.o s41 rfl
  obtain rfl := Option.some.inj h
  have m47 := mob0.g0 g25
  have q48 := qhp0_0.t0 g25.t0 g25
  exact wp_ret (thenR (ret2 p44.z Try.results42 (rvT s46) (rvT s45) ⟨_, rfl, (.iface 36 (.int .i64 4)), rfl, ErG.code, m47, q48, (sepC (show ∀ x ∈ [ob0], x ∉ (ownB hp0_0 ++ L) from (in1 (na (D.bo (i := 0) (j := 1) rfl rfl rfl) (D.bl (i := 0) rfl)))) (sepC (show ∀ x ∈ ownB hp0_0, x ∉ L from (fun x hx => ((D.dl (i := 1) rfl) x hx))) sepN)), (show ∀ b ∈ (ob0 :: (ownB hp0_0 ++ L)), b < w19.heap.size from cx26.lt), cx26.g⟩))
 replace h := (ifN hb35).symm.trans h
 refine wp_skip (thenN ?_)
 refine wp_seq ?_
 refine reg ?_
 refine s1 pg34.z (okMv s30) rfl fun a49 p50 s51 => ?_
 refine s1 p50.z (okNil s51) rfl fun a52 p53 s54 => ?_
 refine s1 p53.z (okFA (o' := 0) fo78_0 s54 rfl) rfl fun a55 p56 s57 => ?_
 have m58 := mob0.g0 g25
 refine s1 p56.z (okLd (j := 0) na75 s57 (m58.cl) rfl rfl) rfl fun a59 p60 s61 => ?_
 have s62 := p60.o (p56.o (p53.o (p50.o s31 rfl) rfl) rfl) rfl
 refine s1 p60.z (okMv s62) rfl fun a63 p64 s65 => ?_
 have s66 := p64.o s61 rfl
 have q67 := qhp0_0.t0 g25.t0 g25
 obtain ⟨y68, hy69, h⟩ := Option.bind_eq_some_iff.1 h
 obtain ⟨b70, cs72, r74, e75, nb76, k73⟩ := q67.at_ hy69
 obtain rfl := r74
 refine s1 p64.z (k73 Try.underlying75 Try.sizeOf59 s66 s65 _) rfl fun a77 p78 s79 => ?_
 refine s1 p78.z (okFA (o' := x1.toNat * 4 + 1) fo59_1 s79 rfl) rfl fun a80 p81 s82 => ?_
 refine s1 p81.z (okLd (j := 1) na4 s82 e75 rfl rfl) rfl fun a83 p84 s85 => ?_
 refine s1 p84.z (okAs s85) rfl fun a86 p87 s88 => ?_
 refine rN (thenN ?_)
 refine wp_seq ?_
 refine reg ?_
 have s89 := p87.o (p84.o (p81.o (p78.o (p64.o (p60.o (p56.o (p53.o (p50.o s30 rfl) rfl) rfl) rfl) rfl) rfl) rfl) rfl) rfl
 refine s1 p87.z (okMv s89) rfl fun a90 p91 s92 => ?_
 refine s1 p91.z (okNil s92) rfl fun a93 p94 s95 => ?_
 refine s1 p94.z (okFA (o' := 0) fo78_0 s95 rfl) rfl fun a96 p97 s98 => ?_
 refine s1 p97.z (okLd (j := 0) na75 s98 (m58.cl) rfl rfl) rfl fun a99 p100 s101 => ?_
 have s102 := p100.o (p97.o (p94.o (p91.o (p87.o (p84.o (p81.o (p78.o (p64.o s62 rfl) rfl) rfl) rfl) rfl) rfl) rfl) rfl) rfl
 refine s1 p100.z (okMv s102) rfl fun a103 p104 s105 => ?_
 have s106 := p104.o s101 rfl
 refine s1 p104.z (k73 Try.underlying75 Try.sizeOf59 s106 s105 _) rfl fun a107 p108 s109 => ?_
 refine s1 p108.z (okFA (o' := x1.toNat * 4 + 1) fo59_1 s109 rfl) rfl fun a110 p111 s112 => ?_
 refine lS (oStoE (K := KTPark) (e' := ({ y68 with flag := false })) (vs := [.bool false]) (j := 1) p111.z s112 cst q67 hy69 nb76 e75 (fun _ h => (.tail _ (List.mem_append_left _ h))) rfl Try.sizeOf4 rfl one1 rfl rfl rfl rfl fun w113 q114 g115 => ?_)
 have cx116 := cx26.cs g115 (fun _ h => .inl (.tail _ (List.mem_append_left _ h)))
 refine rN (thenN ?_)
 refine wp_seq ?_
 refine reg ?_
 have s117 := p111.o (p108.o (p104.o (p100.o (p97.o (p94.o (p91.o s88 rfl) rfl) rfl) rfl) rfl) rfl) rfl
 refine s1 p111.z (okMv s117) rfl fun a118 p119 s120 => ?_
 refine s1 p119.z (okAs s120) rfl fun a121 p122 s123 => ?_
 refine s1 p122.z (okAs cst) rfl fun a124 p125 s126 => ?_
 refine rN (thenN ?_)
 have s127 := p125.o s123 rfl
 obtain rfl := Option.some.inj h
 have m128 := m58.g g115 (D.bo (i := 0) (j := 1) rfl rfl rfl)
 exact wp_ret (ret2 p125.z Try.results42 (rvT s127) (rvT s126) ⟨_, rfl, .nilIface, rfl, ErG.nil, m128, q114, (sepC (show ∀ x ∈ [ob0], x ∉ (ownB hp0_0 ++ L) from (in1 (na (D.bo (i := 0) (j := 1) rfl rfl rfl) (D.bl (i := 0) rfl)))) (sepC (show ∀ x ∈ ownB hp0_0, x ∉ L from (fun x hx => ((D.dl (i := 1) rfl) x hx))) sepN)), (show ∀ b ∈ (ob0 :: (ownB hp0_0 ++ L)), b < w113.heap.size from cx116.lt), cx116.g⟩)

set_option maxHeartbeats 4000000 in
set_option maxRecDepth 100000 in
theorem c43 (L : List Nat) (w : World) (x0 : Tpermit_Table) (ob0 : Nat) (hp0_0 : Value) (x1 : Int) (hL : ∀ b ∈ (ob0 :: (ownB hp0_0 ++ L)), b < w.heap.size) (D : Sep [[ob0], ownB hp0_0] L) (mob0 : Bk w ob0 (Tpermit_Table.C x0 hp0_0) 78) (qhp0_0 : OwnS KTPark 59 (ob0 :: (ownB hp0_0 ++ L)) w hp0_0 x0.l) (r : Er × Tpermit_Table) (h : permit_Table_Interrupt x0 x1 = some r) : Calls Try.prog 43 #[ptr ob0 0, .int .i64 x1] w (fun e w' => ∃ v, e = .returned v ∧ ∃ u0_0, v = u0_0 ∧ ErG 36 0 (ob0 :: (ownB hp0_0 ++ L)) w' u0_0 r.1 ∧ Bk w' ob0 (Tpermit_Table.C r.2 hp0_0) 78 ∧ OwnS KTPark 59 (ob0 :: (ownB hp0_0 ++ L)) w' hp0_0 r.2.l ∧ Sep [[ob0], ownB hp0_0] L ∧ (∀ b ∈ (ob0 :: (ownB hp0_0 ++ L)), b < w'.heap.size) ∧ G (ob0 :: (ownB hp0_0 ++ [])) w w') := by
 refine enterF Try.func43 rfl rfl fun a0 z0 A => ?_
 have s0_0 := A 0 (ptr ob0 0) rfl
 have s0_1 := A 1 (.int .i64 x1) rfl
 clear A
 have hLb : ∀ b ∈ L, b < w.heap.size := fun b h => hL b (.tail _ (List.mem_append_right _ h))
 have c0 : Cx (ob0 :: (ownB hp0_0 ++ [])) w (ob0 :: (ownB hp0_0 ++ L)) w := ⟨G.refl _ _, hL⟩
 unfold permit_Table_Interrupt at h
 refine wp_seq ?_
 refine reg ?_
 refine s1 z0 (okAs cst) rfl fun a1 p2 s3 => ?_
 refine rN (thenN ?_)
 refine wp_seq ?_
 refine wp_seq ?_
 refine reg ?_
 have s4 := p2.o s0_0 rfl
 refine s1 p2.z (okMv s4) rfl fun a5 p6 s7 => ?_
 have s8 := p6.o (p2.o s0_1 rfl) rfl
 refine s1 p6.z (okMv s8) rfl fun a9 p10 s11 => ?_
 have s12 := p10.o s7 rfl
 obtain ⟨t13, ht14, h⟩ := Option.bind_eq_some_iff.1 h
 refine lS (oCall p10.z Try.call30 (ag2 s12 s11) (c30 L w x0 ob0 hp0_0 x1 c0.lt (sepC (show ∀ x ∈ [ob0], x ∉ (ownB hp0_0 ++ L) from (in1 (na (D.bo (i := 0) (j := 1) rfl rfl rfl) (D.bl (i := 0) rfl)))) (sepC (show ∀ x ∈ ownB hp0_0, x ∉ L from (fun x hx => ((D.dl (i := 1) rfl) x hx))) sepN)) mob0 qhp0_0 _ ht14) rfl fun v18 a15 w16 hp19 p17 sp17 => ?_)
 obtain ⟨rfl, g22⟩ := hp19
 have cx23 := c0.ca g22
 refine s1 p17.z (okNot sp17) rfl fun a24 p25 s26 => ?_
 refine rN (thenN ?_)
 have s27 := p25.o (p17.o (p10.o (p6.o s4 rfl) rfl) rfl) rfl
 have s28 := p25.o (p17.o (p10.o s8 rfl) rfl) rfl
 have s29 := p25.o (p17.o (p10.o (p6.o s3 rfl) rfl) rfl) rfl
 have pg30 : Pg _ [4, 5, 6, 7, 8] _ _ := ((((((Pg.refl z0).st p2 rfl).st p6 rfl).st p10 rfl).st p17 rfl).st p25 rfl)
 refine cnd s26 (fun hb31 => ?_) (fun hb31 => ?_)
 ·replace h := (ifP hb31).symm.trans h
  refine wp_seq ?_
  refine reg ?_
  refine s1 pg30.z (okMkI Try.underlying36 cst _) rfl fun a32 p33 s34 => ?_
  refine s1 p33.z (okAs s34) rfl fun a35 p36 s37 => ?_
  refine rN (thenN ?_)
  obtain rfl := Option.some.inj h
  have m38 := mob0.g0 g22
  have q39 := qhp0_0.t0 g22.t0 g22
  exact wp_ret (thenR (ret1 p36.z Try.results43 (rvT s37) ⟨_, rfl, (.iface 36 (.int .i64 4)), rfl, ErG.code, m38, q39, (sepC (show ∀ x ∈ [ob0], x ∉ (ownB hp0_0 ++ L) from (in1 (na (D.bo (i := 0) (j := 1) rfl rfl rfl) (D.bl (i := 0) rfl)))) (sepC (show ∀ x ∈ ownB hp0_0, x ∉ L from (fun x hx => ((D.dl (i := 1) rfl) x hx))) sepN)), (show ∀ b ∈ (ob0 :: (ownB hp0_0 ++ L)), b < w16.heap.size from cx23.lt), cx23.g⟩))
 replace h := (ifN hb31).symm.trans h
 refine wp_skip (thenN ?_)
 refine wp_seq ?_
 refine reg ?_
 refine s1 pg30.z (okMv s27) rfl fun a40 p41 s42 => ?_
 refine s1 p41.z (okNil s42) rfl fun a43 p44 s45 => ?_
 refine s1 p44.z (okFA (o' := 0) fo78_0 s45 rfl) rfl fun a46 p47 s48 => ?_
 have m49 := mob0.g0 g22
 refine s1 p47.z (okLd (j := 0) na75 s48 (m49.cl) rfl rfl) rfl fun a50 p51 s52 => ?_
 have s53 := p51.o (p47.o (p44.o (p41.o s28 rfl) rfl) rfl) rfl
 refine s1 p51.z (okMv s53) rfl fun a54 p55 s56 => ?_
 have s57 := p55.o s52 rfl
 have q58 := qhp0_0.t0 g22.t0 g22
 obtain ⟨y59, hy60, h⟩ := Option.bind_eq_some_iff.1 h
 obtain ⟨b61, cs63, r65, e66, nb67, k64⟩ := q58.at_ hy60
 obtain rfl := r65
 refine s1 p55.z (k64 Try.underlying75 Try.sizeOf59 s57 s56 _) rfl fun a68 p69 s70 => ?_
 refine s1 p69.z (okFA (o' := x1.toNat * 4 + 1) fo59_1 s70 rfl) rfl fun a71 p72 s73 => ?_
 refine lS (oStoE (K := KTPark) (e' := ({ y59 with flag := true })) (vs := [.bool true]) (j := 1) p72.z s73 cst q58 hy60 nb67 e66 (fun _ h => (.tail _ (List.mem_append_left _ h))) rfl Try.sizeOf4 rfl one1 rfl rfl rfl rfl fun w74 q75 g76 => ?_)
 have cx77 := cx23.cs g76 (fun _ h => .inl (.tail _ (List.mem_append_left _ h)))
 refine rN (thenN ?_)
 refine wp_seq ?_
 refine reg ?_
 have s78 := p72.o (p69.o (p55.o (p51.o (p47.o (p44.o (p41.o s27 rfl) rfl) rfl) rfl) rfl) rfl) rfl
 refine s1 p72.z (okMv s78) rfl fun a79 p80 s81 => ?_
 have s82 := p80.o (p72.o (p69.o (p55.o s53 rfl) rfl) rfl) rfl
 refine s1 p80.z (okMv s82) rfl fun a83 p84 s85 => ?_
 have s86 := p84.o s81 rfl
 have m87 := m49.g g76 (D.bo (i := 0) (j := 1) rfl rfl rfl)
 obtain ⟨t88, ht89, h⟩ := Option.bind_eq_some_iff.1 h
 refine lS (oCall p84.z Try.call44 (ag2 s86 s85) (c44 L w74 ({ x0 with l := (x0.l.set x1.toNat ({ y59 with flag := true })) }) ob0 hp0_0 x1 cx77.lt (sepC (show ∀ x ∈ [ob0], x ∉ (ownB hp0_0 ++ L) from (in1 (na (D.bo (i := 0) (j := 1) rfl rfl rfl) (D.bl (i := 0) rfl)))) (sepC (show ∀ x ∈ ownB hp0_0, x ∉ L from (fun x hx => ((D.dl (i := 1) rfl) x hx))) sepN)) m87 q75 _ ht89) rfl fun v93 a90 w91 hp94 p92 sp92 => ?_)
 obtain ⟨rfl, m95, q96, D97, lt98, g99⟩ := hp94
 have hs100 : ∀ i ∈ (ob0 :: (ownB hp0_0 ++ [])), i ∈ (ob0 :: (ownB hp0_0 ++ [])) ∨ w.heap.size ≤ i := (memC (.inl (.head _)) (memA (fun _ h => .inl (.tail _ (List.mem_append_left _ h))) memN))
 have hs101 : ∀ i ∈ (ob0 :: (ownB hp0_0 ++ [])), i ∈ (ob0 :: (ownB hp0_0 ++ L)) := (memC (.head _) (memA (fun _ h => (.tail _ (List.mem_append_left _ h))) memN))
 have t102 : Tr (ob0 :: (ownB hp0_0 ++ L)) w74 (ob0 :: (ownB hp0_0 ++ L)) w91 := G.tC g99 hs101 (memC (.inl (.head _)) (memA (fun _ h => .inl (.tail _ (List.mem_append_left _ h))) (fun i h => .inl ((.tail _ (List.mem_append_right _ h))))))
 have cx103 := cx77.gs g99 hs100 lt98
 refine rN (thenN ?_)
 refine wp_seq ?_
 refine reg ?_
 refine s1 p92.z (okAs cst) rfl fun a104 p105 s106 => ?_
 refine rN (thenN ?_)
 obtain rfl := Option.some.inj h
 exact wp_ret (ret1 p105.z Try.results43 (rvT s106) ⟨_, rfl, .nilIface, rfl, ErG.nil, m95, q96, (sepC (show ∀ x ∈ [ob0], x ∉ (ownB hp0_0 ++ L) from (in1 (na (D.bo (i := 0) (j := 1) rfl rfl rfl) (D.bl (i := 0) rfl)))) (sepC (show ∀ x ∈ ownB hp0_0, x ∉ L from (fun x hx => ((D.dl (i := 1) rfl) x hx))) sepN)), (show ∀ b ∈ (ob0 :: (ownB hp0_0 ++ L)), b < w91.heap.size from cx103.lt), cx103.g⟩)
end Go.Proofs.Ytjdalhedpgiimaa
