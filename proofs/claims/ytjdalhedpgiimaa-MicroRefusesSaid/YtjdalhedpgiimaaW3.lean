/-
  The Go functions micro_machine_plain: each comes to its plain function. Conditions: where the plain function is some.
-/
import Derived.Test.YtjdalhedpgiimaaW2
set_option linter.unusedVariables false
namespace Go.Proofs.Ytjdalhedpgiimaa
open Go Go.RowKit Go.Proofs.Ytjdalhedpgiimaa.Gx
set_option maxHeartbeats 4000000 in
set_option maxRecDepth 100000 in
theorem c37 (L : List Nat) (w : World) (x0 : Tmicro_machine) (ob0 : Nat) (hp0_0 : Value) (ob0_1 : Nat) (hp0_1_0 : Value) (ob0_2 : Nat) (hp0_2_0 : Value) (hp0_3 : Value) (hp0_4 : Value) (x1 : TIns) (x2 : Int) (bx2 : Nat) (hL : ∀ b ∈ (ob0 :: (ob0_1 :: (ownB hp0_1_0 ++ (ob0_2 :: (ownB hp0_2_0 ++ (ownB hp0_3 ++ (ownB hp0_4 ++ L))))))), b < w.heap.size) (D : Sep [[ob0], [ob0_1], ownB hp0_1_0, [ob0_2], ownB hp0_2_0, ownB hp0_3, ownB hp0_4] L) (mob0 : Bk w ob0 (Tmicro_machine.C ({ x0 with a := default, t := default }) hp0_0 (ptr ob0_1 0) (ptr ob0_2 0) hp0_3 hp0_4) 68) (qhp0_0 : RdS KTIns (ob0 :: (ob0_1 :: (ownB hp0_1_0 ++ (ob0_2 :: (ownB hp0_2_0 ++ (ownB hp0_3 ++ (ownB hp0_4 ++ L))))))) w hp0_0 x0.code) (mob0_1 : Bk w ob0_1 (Tcell_Arena.C x0.a hp0_1_0) 72) (qhp0_1_0 : OwnS (KInt .i64) 2 (ob0 :: (ob0_1 :: (ownB hp0_1_0 ++ (ob0_2 :: (ownB hp0_2_0 ++ (ownB hp0_3 ++ (ownB hp0_4 ++ L))))))) w hp0_1_0 x0.a.l) (mob0_2 : Bk w ob0_2 (Tpermit_Table.C x0.t hp0_2_0) 78) (qhp0_2_0 : OwnS KTPark 59 (ob0 :: (ob0_1 :: (ownB hp0_1_0 ++ (ob0_2 :: (ownB hp0_2_0 ++ (ownB hp0_3 ++ (ownB hp0_4 ++ L))))))) w hp0_2_0 x0.t.l) (qhp0_3 : OwnS KTFrame 66 (ob0 :: (ob0_1 :: (ownB hp0_1_0 ++ (ob0_2 :: (ownB hp0_2_0 ++ (ownB hp0_3 ++ (ownB hp0_4 ++ L))))))) w hp0_3 x0.l) (qhp0_4 : OwnS KTNote 80 (ob0 :: (ob0_1 :: (ownB hp0_1_0 ++ (ob0_2 :: (ownB hp0_2_0 ++ (ownB hp0_3 ++ (ownB hp0_4 ++ L))))))) w hp0_4 x0.notes) (eb2 : ownB hp0_3 = [bx2]) (r : Bool × Tmicro_machine) (h : micro_machine_plain x0 x1 x2 = some r) : Calls Try.prog 37 #[ptr ob0 0, .agg (TIns.C x1).toArray, ptr bx2 (x2.toNat * 17)] w (fun e w' => ∃ v, e = .returned v ∧ ∃ nhp0_1_0 nhp0_4, v = .bool r.1 ∧ Bk w' ob0 (Tmicro_machine.C ({ r.2 with a := default, t := default }) hp0_0 (ptr ob0_1 0) (ptr ob0_2 0) hp0_3 nhp0_4) 68 ∧ RdS KTIns (ob0 :: (ob0_1 :: (ownB nhp0_1_0 ++ (ob0_2 :: (ownB hp0_2_0 ++ (ownB hp0_3 ++ (ownB nhp0_4 ++ L))))))) w' hp0_0 r.2.code ∧ Bk w' ob0_1 (Tcell_Arena.C r.2.a nhp0_1_0) 72 ∧ OwnS (KInt .i64) 2 (ob0 :: (ob0_1 :: (ownB nhp0_1_0 ++ (ob0_2 :: (ownB hp0_2_0 ++ (ownB hp0_3 ++ (ownB nhp0_4 ++ L))))))) w' nhp0_1_0 r.2.a.l ∧ Bk w' ob0_2 (Tpermit_Table.C r.2.t hp0_2_0) 78 ∧ OwnS KTPark 59 (ob0 :: (ob0_1 :: (ownB nhp0_1_0 ++ (ob0_2 :: (ownB hp0_2_0 ++ (ownB hp0_3 ++ (ownB nhp0_4 ++ L))))))) w' hp0_2_0 r.2.t.l ∧ OwnS KTFrame 66 (ob0 :: (ob0_1 :: (ownB nhp0_1_0 ++ (ob0_2 :: (ownB hp0_2_0 ++ (ownB hp0_3 ++ (ownB nhp0_4 ++ L))))))) w' hp0_3 r.2.l ∧ OwnS KTNote 80 (ob0 :: (ob0_1 :: (ownB nhp0_1_0 ++ (ob0_2 :: (ownB hp0_2_0 ++ (ownB hp0_3 ++ (ownB nhp0_4 ++ L))))))) w' nhp0_4 r.2.notes ∧ Sep [[ob0], [ob0_1], ownB nhp0_1_0, [ob0_2], ownB hp0_2_0, ownB hp0_3, ownB nhp0_4] L ∧ (∀ x ∈ ownB nhp0_1_0, x ∈ (ob0 :: (ob0_1 :: (ownB hp0_1_0 ++ (ob0_2 :: (ownB hp0_2_0 ++ (ownB hp0_3 ++ (ownB hp0_4 ++ []))))))) ∨ w.heap.size ≤ x) ∧ (∀ x ∈ ownB nhp0_4, x ∈ (ob0 :: (ob0_1 :: (ownB hp0_1_0 ++ (ob0_2 :: (ownB hp0_2_0 ++ (ownB hp0_3 ++ (ownB hp0_4 ++ []))))))) ∨ w.heap.size ≤ x) ∧ (∀ b ∈ (ob0 :: (ob0_1 :: (ownB nhp0_1_0 ++ (ob0_2 :: (ownB hp0_2_0 ++ (ownB hp0_3 ++ (ownB nhp0_4 ++ L))))))), b < w'.heap.size) ∧ G (ob0 :: (ob0_1 :: (ownB hp0_1_0 ++ (ob0_2 :: (ownB hp0_2_0 ++ (ownB hp0_3 ++ (ownB hp0_4 ++ []))))))) w w') := by
 refine enterF Try.func37 rfl rfl fun a0 z0 A => ?_
 have s0_0 := A 0 (ptr ob0 0) rfl
 have s0_1 := A 1 (.agg (TIns.C x1).toArray) rfl
 have s0_2 := A 2 (ptr bx2 (x2.toNat * 17)) rfl
 clear A
 have hLb : ∀ b ∈ L, b < w.heap.size := fun b h => hL b (.tail _ (.tail _ (List.mem_append_right _ (.tail _ (List.mem_append_right _ (List.mem_append_right _ (List.mem_append_right _ h)))))))
 have c0 : Cx (ob0 :: (ob0_1 :: (ownB hp0_1_0 ++ (ob0_2 :: (ownB hp0_2_0 ++ (ownB hp0_3 ++ (ownB hp0_4 ++ []))))))) w (ob0 :: (ob0_1 :: (ownB hp0_1_0 ++ (ob0_2 :: (ownB hp0_2_0 ++ (ownB hp0_3 ++ (ownB hp0_4 ++ L))))))) w := ⟨G.refl _ _, hL⟩
 unfold micro_machine_plain at h
 obtain ⟨y1, hy2, h⟩ := Option.bind_eq_some_iff.1 h
 obtain ⟨b3, cs4, r5, e6, nb7, k8⟩ := qhp0_3.at_ hy2
 obtain rfl : bx2 = b3 := own1 eb2 nb7
 obtain rfl := r5
 refine wp_seq ?_
 refine reg ?_
 refine lS (oBox (l := TIns.C x1) z0 s0_1 rfl rfl fun a9 w10 b11 p12 sp12 m13 g14 e15 => ?_)
 have f17 := c0.nw e15
 have cx16 := c0.al g14 m13
 refine s1 p12.z (okAs cst) rfl fun a18 p19 s20 => ?_
 refine rN (thenN ?_)
 refine wp_seq ?_
 refine wp_seq ?_
 refine reg ?_
 have s21 := p19.o sp12 rfl
 refine s1 p19.z (okFA (o' := 0) fo40_0 s21 rfl) rfl fun a22 p23 s24 => ?_
 refine s1 p23.z (okLd (j := 0) na3 s24 (m13.cl) rfl rfl) rfl fun a25 p26 s27 => ?_
 refine rN (thenN ?_)
 refine wp_block ?_
 refine wp_seq ?_
 refine reg ?_
 refine s1 p26.z (okEq s27 cst) rfl fun a28 p29 s30 => ?_
 refine s1 p29.z (okAs s30) rfl fun a31 p32 s33 => ?_
 refine rN (thenN ?_)
 have s34 := p32.o (p29.o (p26.o (p23.o s21 rfl) rfl) rfl) rfl
 have s35 := p32.o (p29.o (p26.o (p23.o s20 rfl) rfl) rfl) rfl
 have s36 := p32.o (p29.o s27 rfl) rfl
 have pg37 : Pg _ [4, 6, 12, 13, 14, 15] _ _ := (((((((Pg.refl z0).st p12 rfl).st p19 rfl).st p23 rfl).st p26 rfl).st p29 rfl).st p32 rfl)
 refine cnd s33 (fun hb38 => ?_) (fun hb38 => ?_)
 ·replace h := (ifP hb38).symm.trans h
  refine regT 8 mixed (by kernel_rfl) ?_
  have g39 := G.drew w10
  have cx40 := cx16.ca g39
  have s41 := pg37.o s0_2 rfl
  refine t1 pg37.z (okMv s41) rfl fun a42 p43 s44 => ?_
  have s45 := p43.o s34 rfl
  refine t1 p43.z (okFA (o' := 1) fo40_1 s45 rfl) rfl fun a46 p47 s48 => ?_
  have m49 := m13.g0 g39
  refine t1 p47.z (okLd (j := 1) na3 s48 (m49.cl) rfl rfl) rfl fun a50 p51 s52 => ?_
  have s53 := p51.o (p47.o s45 rfl) rfl
  refine t1 p51.z (okFA (o' := 4) fo40_4 s53 rfl) rfl fun a54 p55 s56 => ?_
  refine t1 p55.z (okLd (j := 4) na2 s56 (m49.cl) rfl rfl) rfl fun a57 p58 s59 => ?_
  have s60 := p58.o (p55.o (p51.o (p47.o s44 rfl) rfl) rfl) rfl
  refine t1 p58.z (okNil s60) rfl fun a61 p62 s63 => ?_
  refine t1 p62.z (okFA (o' := x2.toNat * 17 + 1) fo66_1 s63 rfl) rfl fun a64 p65 s66 => ?_
  have s67 := p65.o (p62.o (p58.o (p55.o s52 rfl) rfl) rfl) rfl
  by_cases hi68 : 0 ≤ x1.a ∧ x1.a < 16
  case neg => rw [if_neg hi68] at h; cases h
  replace h := (if_pos hi68).symm.trans h
  refine t1 p65.z (okIA Try.underlying64 Try.sizeOf2 s66 s67 hi68) rfl fun a69 p70 s71 => ?_
  refine tN ?_
  have s72 := p70.o (p65.o (p62.o s59 rfl) rfl) rfl
  have e73 := (e6.g0 g14).g0 g39
  have q74 := (qhp0_3.t0 (g14.tA (Nat.le_of_eq e15.symm)) g14).t0 g39.t0 g39
  have m78 := (mob0.g0 g14).g0 g39
  have m79 := (mob0_1.g0 g14).g0 g39
  have m80 := (mob0_2.g0 g14).g0 g39
  refine lS (oStoE (K := KTFrame) (e' := ({ y1 with r := y1.r.set x1.a x1.n })) (vs := [.int .i64 x1.n]) (j := 1 + x1.a.toNat) p70.z s71 s72 q74 hy2 eb2 e73 (fun _ h => (.tail _ (.tail _ (.tail _ (List.mem_append_right _ (.tail _ (List.mem_append_right _ (List.mem_append_left _ h)))))))) (Nat.add_assoc _ _ _).symm Try.sizeOf2 rfl one1 rfl (ble (by have := hi68; show 1 + _ + 1 ≤ 17; omega)) (TFrame.C_r_set _ hi68 _) rfl fun w75 q76 g77 => ?_)
  have cx81 := cx40.cs g77 (fun _ h => .inl (.tail _ (.tail _ (List.mem_append_right _ (.tail _ (List.mem_append_right _ (List.mem_append_left _ h)))))))
  refine rN (blkN (thenN ?_))
  refine wp_seq ?_
  refine reg ?_
  refine s1 p70.z (okAs cst) rfl fun a82 p83 s84 => ?_
  refine rN (thenN ?_)
  obtain rfl := Option.some.inj h
  have m85 := m78.g g77 (D.bo (i := 0) (j := 5) rfl rfl rfl)
  have q86 := qhp0_0.mono (((g14.tA (Nat.le_of_eq e15.symm)).trans g39.t0).trans (g77.t (fun _ h => (.tail _ (.tail _ (.tail _ (List.mem_append_right _ (.tail _ (List.mem_append_right _ (List.mem_append_left _ h))))))))))
  have m87 := m79.g g77 (D.bo (i := 1) (j := 5) rfl rfl rfl)
  have q88 := ((qhp0_1_0.t0 (g14.tA (Nat.le_of_eq e15.symm)) g14).t0 g39.t0 g39).tr (g77.t (fun _ h => (.tail _ (.tail _ (.tail _ (List.mem_append_right _ (.tail _ (List.mem_append_right _ (List.mem_append_left _ h))))))))) g77 (D.dj (i := 2) (j := 5) rfl rfl rfl)
  have m89 := m80.g g77 (D.bo (i := 3) (j := 5) rfl rfl rfl)
  have q90 := ((qhp0_2_0.t0 (g14.tA (Nat.le_of_eq e15.symm)) g14).t0 g39.t0 g39).tr (g77.t (fun _ h => (.tail _ (.tail _ (.tail _ (List.mem_append_right _ (.tail _ (List.mem_append_right _ (List.mem_append_left _ h))))))))) g77 (D.dj (i := 4) (j := 5) rfl rfl rfl)
  have q91 := ((qhp0_4.t0 (g14.tA (Nat.le_of_eq e15.symm)) g14).t0 g39.t0 g39).tr (g77.t (fun _ h => (.tail _ (.tail _ (.tail _ (List.mem_append_right _ (.tail _ (List.mem_append_right _ (List.mem_append_left _ h))))))))) g77 (djs (D.dj (i := 5) (j := 6) rfl rfl rfl))
  exact wp_ret (ret1 p83.z Try.results37 (rvT s84) ⟨_, rfl, hp0_1_0, hp0_4, rfl, m85, (q86.mono ((Tr.refl _ _).sub (fun i h => (.tail _ h)))), m87, (q88.sub (fun i h => (.tail _ h))), m89, (q90.sub (fun i h => (.tail _ h))), (q76.sub (fun i h => (.tail _ h))), (q91.sub (fun i h => (.tail _ h))), (sepC (show ∀ x ∈ [ob0], x ∉ (ob0_1 :: (ownB hp0_1_0 ++ (ob0_2 :: (ownB hp0_2_0 ++ (ownB hp0_3 ++ (ownB hp0_4 ++ L)))))) from (in1 (nc (D.bb (i := 0) (j := 1) rfl rfl rfl) (na (D.bo (i := 0) (j := 2) rfl rfl rfl) (nc (D.bb (i := 0) (j := 3) rfl rfl rfl) (na (D.bo (i := 0) (j := 4) rfl rfl rfl) (na (D.bo (i := 0) (j := 5) rfl rfl rfl) (na (D.bo (i := 0) (j := 6) rfl rfl rfl) (D.bl (i := 0) rfl))))))))) (sepC (show ∀ x ∈ [ob0_1], x ∉ (ownB hp0_1_0 ++ (ob0_2 :: (ownB hp0_2_0 ++ (ownB hp0_3 ++ (ownB hp0_4 ++ L))))) from (in1 (na (D.bo (i := 1) (j := 2) rfl rfl rfl) (nc (D.bb (i := 1) (j := 3) rfl rfl rfl) (na (D.bo (i := 1) (j := 4) rfl rfl rfl) (na (D.bo (i := 1) (j := 5) rfl rfl rfl) (na (D.bo (i := 1) (j := 6) rfl rfl rfl) (D.bl (i := 1) rfl)))))))) (sepC (show ∀ x ∈ ownB hp0_1_0, x ∉ (ob0_2 :: (ownB hp0_2_0 ++ (ownB hp0_3 ++ (ownB hp0_4 ++ L)))) from (fun x hx => (nc (nbo (D.ob (i := 2) (j := 3) rfl rfl rfl) hx) (na ((D.dj (i := 2) (j := 4) rfl rfl rfl) x hx) (na ((D.dj (i := 2) (j := 5) rfl rfl rfl) x hx) (na ((D.dj (i := 2) (j := 6) rfl rfl rfl) x hx) ((D.dl (i := 2) rfl) x hx))))))) (sepC (show ∀ x ∈ [ob0_2], x ∉ (ownB hp0_2_0 ++ (ownB hp0_3 ++ (ownB hp0_4 ++ L))) from (in1 (na (D.bo (i := 3) (j := 4) rfl rfl rfl) (na (D.bo (i := 3) (j := 5) rfl rfl rfl) (na (D.bo (i := 3) (j := 6) rfl rfl rfl) (D.bl (i := 3) rfl)))))) (sepC (show ∀ x ∈ ownB hp0_2_0, x ∉ (ownB hp0_3 ++ (ownB hp0_4 ++ L)) from (fun x hx => (na ((D.dj (i := 4) (j := 5) rfl rfl rfl) x hx) (na ((D.dj (i := 4) (j := 6) rfl rfl rfl) x hx) ((D.dl (i := 4) rfl) x hx))))) (sepC (show ∀ x ∈ ownB hp0_3, x ∉ (ownB hp0_4 ++ L) from (fun x hx => (na ((D.dj (i := 5) (j := 6) rfl rfl rfl) x hx) ((D.dl (i := 5) rfl) x hx)))) (sepC (show ∀ x ∈ ownB hp0_4, x ∉ L from (fun x hx => ((D.dl (i := 6) rfl) x hx))) sepN))))))), (fun _ h => .inl (.tail _ (.tail _ (List.mem_append_left _ h)))), (fun _ h => .inl (.tail _ (.tail _ (List.mem_append_right _ (.tail _ (List.mem_append_right _ (List.mem_append_right _ (List.mem_append_left _ h)))))))), (show ∀ b ∈ (ob0 :: (ob0_1 :: (ownB hp0_1_0 ++ (ob0_2 :: (ownB hp0_2_0 ++ (ownB hp0_3 ++ (ownB hp0_4 ++ L))))))), b < w75.heap.size from (fun i h => cx81.lt i (.tail _ h))), cx81.g⟩)
 replace h := (ifN hb38).symm.trans h
 refine wp_seq ?_
 refine reg ?_
 refine s1 pg37.z (okEq s36 cst) rfl fun a92 p93 s94 => ?_
 refine s1 p93.z (okAs s94) rfl fun a95 p96 s97 => ?_
 refine rN (thenN ?_)
 refine cnd s97 (fun hb98 => ?_) (fun hb98 => ?_)
 ·replace h := (ifP hb98).symm.trans h
  refine regT 13 mixed (by kernel_rfl) ?_
  have g99 := G.drew w10
  have cx100 := cx16.ca g99
  have s101 := p96.o (p93.o (pg37.o s0_2 rfl) rfl) rfl
  refine t1 p96.z (okMv s101) rfl fun a102 p103 s104 => ?_
  have s105 := p103.o (p96.o (p93.o s34 rfl) rfl) rfl
  refine t1 p103.z (okFA (o' := 1) fo40_1 s105 rfl) rfl fun a106 p107 s108 => ?_
  have m109 := m13.g0 g99
  refine t1 p107.z (okLd (j := 1) na3 s108 (m109.cl) rfl rfl) rfl fun a110 p111 s112 => ?_
  have s113 := p111.o (p107.o (p103.o s101 rfl) rfl) rfl
  refine t1 p111.z (okMv s113) rfl fun a114 p115 s116 => ?_
  have s117 := p115.o (p111.o (p107.o s105 rfl) rfl) rfl
  refine t1 p115.z (okFA (o' := 2) fo40_2 s117 rfl) rfl fun a118 p119 s120 => ?_
  refine t1 p119.z (okLd (j := 2) na3 s120 (m109.cl) rfl rfl) rfl fun a121 p122 s123 => ?_
  have s124 := p122.o (p119.o s116 rfl) rfl
  refine t1 p122.z (okNil s124) rfl fun a125 p126 s127 => ?_
  refine t1 p126.z (okFA (o' := x2.toNat * 17 + 1) fo66_1 s127 rfl) rfl fun a128 p129 s130 => ?_
  have s131 := p129.o (p126.o s123 rfl) rfl
  by_cases hi132 : 0 ≤ x1.b ∧ x1.b < 16
  case neg => rw [if_neg hi132] at h; cases h
  replace h := (if_pos hi132).symm.trans h
  refine t1 p129.z (okIA Try.underlying64 Try.sizeOf2 s130 s131 hi132) rfl fun a133 p134 s135 => ?_
  have e136 := (e6.g0 g14).g0 g99
  refine t1 p134.z (okLd (j := 1 + x1.b.toNat) na2 s135 e136 (Nat.add_assoc _ _ _).symm (TFrame.C_r_get _ hi132)) rfl fun a137 p138 s139 => ?_
  have s140 := p138.o (p134.o (p129.o (p126.o (p122.o (p119.o (p115.o (p111.o (p107.o s104 rfl) rfl) rfl) rfl) rfl) rfl) rfl) rfl) rfl
  refine t1 p138.z (okNil s140) rfl fun a141 p142 s143 => ?_
  refine t1 p142.z (okFA (o' := x2.toNat * 17 + 1) fo66_1 s143 rfl) rfl fun a144 p145 s146 => ?_
  have s147 := p145.o (p142.o (p138.o (p134.o (p129.o (p126.o (p122.o (p119.o (p115.o s112 rfl) rfl) rfl) rfl) rfl) rfl) rfl) rfl) rfl
  by_cases hi148 : 0 ≤ x1.a ∧ x1.a < 16
  case neg => rw [if_neg hi148] at h; cases h
  replace h := (if_pos hi148).symm.trans h
  refine t1 p145.z (okIA Try.underlying64 Try.sizeOf2 s146 s147 hi148) rfl fun a149 p150 s151 => ?_
  refine tN ?_
  have s152 := p150.o (p145.o (p142.o s139 rfl) rfl) rfl
  have q153 := (qhp0_3.t0 (g14.tA (Nat.le_of_eq e15.symm)) g14).t0 g99.t0 g99
  have m157 := (mob0.g0 g14).g0 g99
  have m158 := (mob0_1.g0 g14).g0 g99
  have m159 := (mob0_2.g0 g14).g0 g99
  refine lS (oStoE (K := KTFrame) (e' := ({ y1 with r := y1.r.set x1.a (y1.r.get x1.b) })) (vs := [.int .i64 (y1.r.get x1.b)]) (j := 1 + x1.a.toNat) p150.z s151 s152 q153 hy2 eb2 e136 (fun _ h => (.tail _ (.tail _ (.tail _ (List.mem_append_right _ (.tail _ (List.mem_append_right _ (List.mem_append_left _ h)))))))) (Nat.add_assoc _ _ _).symm Try.sizeOf2 rfl one1 rfl (ble (by have := hi148; show 1 + _ + 1 ≤ 17; omega)) (TFrame.C_r_set _ hi148 _) rfl fun w154 q155 g156 => ?_)
  have cx160 := cx100.cs g156 (fun _ h => .inl (.tail _ (.tail _ (List.mem_append_right _ (.tail _ (List.mem_append_right _ (List.mem_append_left _ h)))))))
  refine rN (blkN (thenN ?_))
  refine wp_seq ?_
  refine reg ?_
  refine s1 p150.z (okAs cst) rfl fun a161 p162 s163 => ?_
  refine rN (thenN ?_)
  obtain rfl := Option.some.inj h
  have m164 := m157.g g156 (D.bo (i := 0) (j := 5) rfl rfl rfl)
  have q165 := qhp0_0.mono (((g14.tA (Nat.le_of_eq e15.symm)).trans g99.t0).trans (g156.t (fun _ h => (.tail _ (.tail _ (.tail _ (List.mem_append_right _ (.tail _ (List.mem_append_right _ (List.mem_append_left _ h))))))))))
  have m166 := m158.g g156 (D.bo (i := 1) (j := 5) rfl rfl rfl)
  have q167 := ((qhp0_1_0.t0 (g14.tA (Nat.le_of_eq e15.symm)) g14).t0 g99.t0 g99).tr (g156.t (fun _ h => (.tail _ (.tail _ (.tail _ (List.mem_append_right _ (.tail _ (List.mem_append_right _ (List.mem_append_left _ h))))))))) g156 (D.dj (i := 2) (j := 5) rfl rfl rfl)
  have m168 := m159.g g156 (D.bo (i := 3) (j := 5) rfl rfl rfl)
  have q169 := ((qhp0_2_0.t0 (g14.tA (Nat.le_of_eq e15.symm)) g14).t0 g99.t0 g99).tr (g156.t (fun _ h => (.tail _ (.tail _ (.tail _ (List.mem_append_right _ (.tail _ (List.mem_append_right _ (List.mem_append_left _ h))))))))) g156 (D.dj (i := 4) (j := 5) rfl rfl rfl)
  have q170 := ((qhp0_4.t0 (g14.tA (Nat.le_of_eq e15.symm)) g14).t0 g99.t0 g99).tr (g156.t (fun _ h => (.tail _ (.tail _ (.tail _ (List.mem_append_right _ (.tail _ (List.mem_append_right _ (List.mem_append_left _ h))))))))) g156 (djs (D.dj (i := 5) (j := 6) rfl rfl rfl))
  exact wp_ret (ret1 p162.z Try.results37 (rvT s163) ⟨_, rfl, hp0_1_0, hp0_4, rfl, m164, (q165.mono ((Tr.refl _ _).sub (fun i h => (.tail _ h)))), m166, (q167.sub (fun i h => (.tail _ h))), m168, (q169.sub (fun i h => (.tail _ h))), (q155.sub (fun i h => (.tail _ h))), (q170.sub (fun i h => (.tail _ h))), (sepC (show ∀ x ∈ [ob0], x ∉ (ob0_1 :: (ownB hp0_1_0 ++ (ob0_2 :: (ownB hp0_2_0 ++ (ownB hp0_3 ++ (ownB hp0_4 ++ L)))))) from (in1 (nc (D.bb (i := 0) (j := 1) rfl rfl rfl) (na (D.bo (i := 0) (j := 2) rfl rfl rfl) (nc (D.bb (i := 0) (j := 3) rfl rfl rfl) (na (D.bo (i := 0) (j := 4) rfl rfl rfl) (na (D.bo (i := 0) (j := 5) rfl rfl rfl) (na (D.bo (i := 0) (j := 6) rfl rfl rfl) (D.bl (i := 0) rfl))))))))) (sepC (show ∀ x ∈ [ob0_1], x ∉ (ownB hp0_1_0 ++ (ob0_2 :: (ownB hp0_2_0 ++ (ownB hp0_3 ++ (ownB hp0_4 ++ L))))) from (in1 (na (D.bo (i := 1) (j := 2) rfl rfl rfl) (nc (D.bb (i := 1) (j := 3) rfl rfl rfl) (na (D.bo (i := 1) (j := 4) rfl rfl rfl) (na (D.bo (i := 1) (j := 5) rfl rfl rfl) (na (D.bo (i := 1) (j := 6) rfl rfl rfl) (D.bl (i := 1) rfl)))))))) (sepC (show ∀ x ∈ ownB hp0_1_0, x ∉ (ob0_2 :: (ownB hp0_2_0 ++ (ownB hp0_3 ++ (ownB hp0_4 ++ L)))) from (fun x hx => (nc (nbo (D.ob (i := 2) (j := 3) rfl rfl rfl) hx) (na ((D.dj (i := 2) (j := 4) rfl rfl rfl) x hx) (na ((D.dj (i := 2) (j := 5) rfl rfl rfl) x hx) (na ((D.dj (i := 2) (j := 6) rfl rfl rfl) x hx) ((D.dl (i := 2) rfl) x hx))))))) (sepC (show ∀ x ∈ [ob0_2], x ∉ (ownB hp0_2_0 ++ (ownB hp0_3 ++ (ownB hp0_4 ++ L))) from (in1 (na (D.bo (i := 3) (j := 4) rfl rfl rfl) (na (D.bo (i := 3) (j := 5) rfl rfl rfl) (na (D.bo (i := 3) (j := 6) rfl rfl rfl) (D.bl (i := 3) rfl)))))) (sepC (show ∀ x ∈ ownB hp0_2_0, x ∉ (ownB hp0_3 ++ (ownB hp0_4 ++ L)) from (fun x hx => (na ((D.dj (i := 4) (j := 5) rfl rfl rfl) x hx) (na ((D.dj (i := 4) (j := 6) rfl rfl rfl) x hx) ((D.dl (i := 4) rfl) x hx))))) (sepC (show ∀ x ∈ ownB hp0_3, x ∉ (ownB hp0_4 ++ L) from (fun x hx => (na ((D.dj (i := 5) (j := 6) rfl rfl rfl) x hx) ((D.dl (i := 5) rfl) x hx)))) (sepC (show ∀ x ∈ ownB hp0_4, x ∉ L from (fun x hx => ((D.dl (i := 6) rfl) x hx))) sepN))))))), (fun _ h => .inl (.tail _ (.tail _ (List.mem_append_left _ h)))), (fun _ h => .inl (.tail _ (.tail _ (List.mem_append_right _ (.tail _ (List.mem_append_right _ (List.mem_append_right _ (List.mem_append_left _ h)))))))), (show ∀ b ∈ (ob0 :: (ob0_1 :: (ownB hp0_1_0 ++ (ob0_2 :: (ownB hp0_2_0 ++ (ownB hp0_3 ++ (ownB hp0_4 ++ L))))))), b < w154.heap.size from (fun i h => cx160.lt i (.tail _ h))), cx160.g⟩)
 replace h := (ifN hb98).symm.trans h
 refine wp_seq ?_
 refine reg ?_
 have s171 := p96.o (p93.o s36 rfl) rfl
 refine s1 p96.z (okEq s171 cst) rfl fun a172 p173 s174 => ?_
 refine s1 p173.z (okAs s174) rfl fun a175 p176 s177 => ?_
 refine rN (thenN ?_)
 have s178 := p176.o (p173.o s171 rfl) rfl
 have pg179 : Pg _ [24, 25, 39, 40] _ _ := (((((Pg.refl pg37.z).st p93 rfl).st p96 rfl).st p173 rfl).st p176 rfl)
 refine cnd s177 (fun hb180 => ?_) (fun hb180 => ?_)
 ·replace h := (ifP hb180).symm.trans h
  refine regT 21 mixed (by kernel_rfl) ?_
  have g181 := G.drew w10
  have cx182 := cx16.ca g181
  have s183 := pg179.o (pg37.o s0_2 rfl) rfl
  refine t1 pg179.z (okMv s183) rfl fun a184 p185 s186 => ?_
  have s187 := p185.o (pg179.o s34 rfl) rfl
  refine t1 p185.z (okFA (o' := 1) fo40_1 s187 rfl) rfl fun a188 p189 s190 => ?_
  have m191 := m13.g0 g181
  refine t1 p189.z (okLd (j := 1) na3 s190 (m191.cl) rfl rfl) rfl fun a192 p193 s194 => ?_
  have s195 := p193.o (p189.o (p185.o s183 rfl) rfl) rfl
  refine t1 p193.z (okMv s195) rfl fun a196 p197 s198 => ?_
  have s199 := p197.o (p193.o (p189.o s187 rfl) rfl) rfl
  refine t1 p197.z (okFA (o' := 2) fo40_2 s199 rfl) rfl fun a200 p201 s202 => ?_
  refine t1 p201.z (okLd (j := 2) na3 s202 (m191.cl) rfl rfl) rfl fun a203 p204 s205 => ?_
  have s206 := p204.o (p201.o s198 rfl) rfl
  refine t1 p204.z (okNil s206) rfl fun a207 p208 s209 => ?_
  refine t1 p208.z (okFA (o' := x2.toNat * 17 + 1) fo66_1 s209 rfl) rfl fun a210 p211 s212 => ?_
  have s213 := p211.o (p208.o s205 rfl) rfl
  by_cases hi214 : 0 ≤ x1.b ∧ x1.b < 16
  case neg => rw [if_neg hi214] at h; cases h
  replace h := (if_pos hi214).symm.trans h
  refine t1 p211.z (okIA Try.underlying64 Try.sizeOf2 s212 s213 hi214) rfl fun a215 p216 s217 => ?_
  have e218 := (e6.g0 g14).g0 g181
  refine t1 p216.z (okLd (j := 1 + x1.b.toNat) na2 s217 e218 (Nat.add_assoc _ _ _).symm (TFrame.C_r_get _ hi214)) rfl fun a219 p220 s221 => ?_
  have s222 := p220.o (p216.o (p211.o (p208.o (p204.o (p201.o (p197.o s195 rfl) rfl) rfl) rfl) rfl) rfl) rfl
  refine t1 p220.z (okMv s222) rfl fun a223 p224 s225 => ?_
  have s226 := p224.o (p220.o (p216.o (p211.o (p208.o (p204.o (p201.o s199 rfl) rfl) rfl) rfl) rfl) rfl) rfl
  refine t1 p224.z (okFA (o' := 3) fo40_3 s226 rfl) rfl fun a227 p228 s229 => ?_
  refine t1 p228.z (okLd (j := 3) na3 s229 (m191.cl) rfl rfl) rfl fun a230 p231 s232 => ?_
  have s233 := p231.o (p228.o s225 rfl) rfl
  refine t1 p231.z (okNil s233) rfl fun a234 p235 s236 => ?_
  refine t1 p235.z (okFA (o' := x2.toNat * 17 + 1) fo66_1 s236 rfl) rfl fun a237 p238 s239 => ?_
  have s240 := p238.o (p235.o s232 rfl) rfl
  by_cases hi241 : 0 ≤ x1.c ∧ x1.c < 16
  case neg => rw [if_neg hi241] at h; cases h
  replace h := (if_pos hi241).symm.trans h
  refine t1 p238.z (okIA Try.underlying64 Try.sizeOf2 s239 s240 hi241) rfl fun a242 p243 s244 => ?_
  refine t1 p243.z (okLd (j := 1 + x1.c.toNat) na2 s244 e218 (Nat.add_assoc _ _ _).symm (TFrame.C_r_get _ hi241)) rfl fun a245 p246 s247 => ?_
  have s248 := p246.o (p243.o (p238.o (p235.o (p231.o (p228.o (p224.o s221 rfl) rfl) rfl) rfl) rfl) rfl) rfl
  refine t1 p246.z (okAdd s248 s247) rfl fun a249 p250 s251 => ?_
  have s252 := p250.o (p246.o (p243.o (p238.o (p235.o (p231.o (p228.o (p224.o (p220.o (p216.o (p211.o (p208.o (p204.o (p201.o (p197.o (p193.o (p189.o s186 rfl) rfl) rfl) rfl) rfl) rfl) rfl) rfl) rfl) rfl) rfl) rfl) rfl) rfl) rfl) rfl) rfl
  refine t1 p250.z (okNil s252) rfl fun a253 p254 s255 => ?_
  refine t1 p254.z (okFA (o' := x2.toNat * 17 + 1) fo66_1 s255 rfl) rfl fun a256 p257 s258 => ?_
  have s259 := p257.o (p254.o (p250.o (p246.o (p243.o (p238.o (p235.o (p231.o (p228.o (p224.o (p220.o (p216.o (p211.o (p208.o (p204.o (p201.o (p197.o s194 rfl) rfl) rfl) rfl) rfl) rfl) rfl) rfl) rfl) rfl) rfl) rfl) rfl) rfl) rfl) rfl) rfl
  by_cases hi260 : 0 ≤ x1.a ∧ x1.a < 16
  case neg => rw [if_neg hi260] at h; cases h
  replace h := (if_pos hi260).symm.trans h
  refine t1 p257.z (okIA Try.underlying64 Try.sizeOf2 s258 s259 hi260) rfl fun a261 p262 s263 => ?_
  refine tN ?_
  have s264 := p262.o (p257.o (p254.o s251 rfl) rfl) rfl
  have q265 := (qhp0_3.t0 (g14.tA (Nat.le_of_eq e15.symm)) g14).t0 g181.t0 g181
  have m269 := (mob0.g0 g14).g0 g181
  have m270 := (mob0_1.g0 g14).g0 g181
  have m271 := (mob0_2.g0 g14).g0 g181
  refine lS (oStoE (K := KTFrame) (e' := ({ y1 with r := y1.r.set x1.a (w64 ((y1.r.get x1.b) + (y1.r.get x1.c))) })) (vs := [.int .i64 (w64 ((y1.r.get x1.b) + (y1.r.get x1.c)))]) (j := 1 + x1.a.toNat) p262.z s263 s264 q265 hy2 eb2 e218 (fun _ h => (.tail _ (.tail _ (.tail _ (List.mem_append_right _ (.tail _ (List.mem_append_right _ (List.mem_append_left _ h)))))))) (Nat.add_assoc _ _ _).symm Try.sizeOf2 rfl one1 rfl (ble (by have := hi260; show 1 + _ + 1 ≤ 17; omega)) (TFrame.C_r_set _ hi260 _) rfl fun w266 q267 g268 => ?_)
  have cx272 := cx182.cs g268 (fun _ h => .inl (.tail _ (.tail _ (List.mem_append_right _ (.tail _ (List.mem_append_right _ (List.mem_append_left _ h)))))))
  refine rN (blkN (thenN ?_))
  refine wp_seq ?_
  refine reg ?_
  refine s1 p262.z (okAs cst) rfl fun a273 p274 s275 => ?_
  refine rN (thenN ?_)
  obtain rfl := Option.some.inj h
  have m276 := m269.g g268 (D.bo (i := 0) (j := 5) rfl rfl rfl)
  have q277 := qhp0_0.mono (((g14.tA (Nat.le_of_eq e15.symm)).trans g181.t0).trans (g268.t (fun _ h => (.tail _ (.tail _ (.tail _ (List.mem_append_right _ (.tail _ (List.mem_append_right _ (List.mem_append_left _ h))))))))))
  have m278 := m270.g g268 (D.bo (i := 1) (j := 5) rfl rfl rfl)
  have q279 := ((qhp0_1_0.t0 (g14.tA (Nat.le_of_eq e15.symm)) g14).t0 g181.t0 g181).tr (g268.t (fun _ h => (.tail _ (.tail _ (.tail _ (List.mem_append_right _ (.tail _ (List.mem_append_right _ (List.mem_append_left _ h))))))))) g268 (D.dj (i := 2) (j := 5) rfl rfl rfl)
  have m280 := m271.g g268 (D.bo (i := 3) (j := 5) rfl rfl rfl)
  have q281 := ((qhp0_2_0.t0 (g14.tA (Nat.le_of_eq e15.symm)) g14).t0 g181.t0 g181).tr (g268.t (fun _ h => (.tail _ (.tail _ (.tail _ (List.mem_append_right _ (.tail _ (List.mem_append_right _ (List.mem_append_left _ h))))))))) g268 (D.dj (i := 4) (j := 5) rfl rfl rfl)
  have q282 := ((qhp0_4.t0 (g14.tA (Nat.le_of_eq e15.symm)) g14).t0 g181.t0 g181).tr (g268.t (fun _ h => (.tail _ (.tail _ (.tail _ (List.mem_append_right _ (.tail _ (List.mem_append_right _ (List.mem_append_left _ h))))))))) g268 (djs (D.dj (i := 5) (j := 6) rfl rfl rfl))
  exact wp_ret (ret1 p274.z Try.results37 (rvT s275) ⟨_, rfl, hp0_1_0, hp0_4, rfl, m276, (q277.mono ((Tr.refl _ _).sub (fun i h => (.tail _ h)))), m278, (q279.sub (fun i h => (.tail _ h))), m280, (q281.sub (fun i h => (.tail _ h))), (q267.sub (fun i h => (.tail _ h))), (q282.sub (fun i h => (.tail _ h))), (sepC (show ∀ x ∈ [ob0], x ∉ (ob0_1 :: (ownB hp0_1_0 ++ (ob0_2 :: (ownB hp0_2_0 ++ (ownB hp0_3 ++ (ownB hp0_4 ++ L)))))) from (in1 (nc (D.bb (i := 0) (j := 1) rfl rfl rfl) (na (D.bo (i := 0) (j := 2) rfl rfl rfl) (nc (D.bb (i := 0) (j := 3) rfl rfl rfl) (na (D.bo (i := 0) (j := 4) rfl rfl rfl) (na (D.bo (i := 0) (j := 5) rfl rfl rfl) (na (D.bo (i := 0) (j := 6) rfl rfl rfl) (D.bl (i := 0) rfl))))))))) (sepC (show ∀ x ∈ [ob0_1], x ∉ (ownB hp0_1_0 ++ (ob0_2 :: (ownB hp0_2_0 ++ (ownB hp0_3 ++ (ownB hp0_4 ++ L))))) from (in1 (na (D.bo (i := 1) (j := 2) rfl rfl rfl) (nc (D.bb (i := 1) (j := 3) rfl rfl rfl) (na (D.bo (i := 1) (j := 4) rfl rfl rfl) (na (D.bo (i := 1) (j := 5) rfl rfl rfl) (na (D.bo (i := 1) (j := 6) rfl rfl rfl) (D.bl (i := 1) rfl)))))))) (sepC (show ∀ x ∈ ownB hp0_1_0, x ∉ (ob0_2 :: (ownB hp0_2_0 ++ (ownB hp0_3 ++ (ownB hp0_4 ++ L)))) from (fun x hx => (nc (nbo (D.ob (i := 2) (j := 3) rfl rfl rfl) hx) (na ((D.dj (i := 2) (j := 4) rfl rfl rfl) x hx) (na ((D.dj (i := 2) (j := 5) rfl rfl rfl) x hx) (na ((D.dj (i := 2) (j := 6) rfl rfl rfl) x hx) ((D.dl (i := 2) rfl) x hx))))))) (sepC (show ∀ x ∈ [ob0_2], x ∉ (ownB hp0_2_0 ++ (ownB hp0_3 ++ (ownB hp0_4 ++ L))) from (in1 (na (D.bo (i := 3) (j := 4) rfl rfl rfl) (na (D.bo (i := 3) (j := 5) rfl rfl rfl) (na (D.bo (i := 3) (j := 6) rfl rfl rfl) (D.bl (i := 3) rfl)))))) (sepC (show ∀ x ∈ ownB hp0_2_0, x ∉ (ownB hp0_3 ++ (ownB hp0_4 ++ L)) from (fun x hx => (na ((D.dj (i := 4) (j := 5) rfl rfl rfl) x hx) (na ((D.dj (i := 4) (j := 6) rfl rfl rfl) x hx) ((D.dl (i := 4) rfl) x hx))))) (sepC (show ∀ x ∈ ownB hp0_3, x ∉ (ownB hp0_4 ++ L) from (fun x hx => (na ((D.dj (i := 5) (j := 6) rfl rfl rfl) x hx) ((D.dl (i := 5) rfl) x hx)))) (sepC (show ∀ x ∈ ownB hp0_4, x ∉ L from (fun x hx => ((D.dl (i := 6) rfl) x hx))) sepN))))))), (fun _ h => .inl (.tail _ (.tail _ (List.mem_append_left _ h)))), (fun _ h => .inl (.tail _ (.tail _ (List.mem_append_right _ (.tail _ (List.mem_append_right _ (List.mem_append_right _ (List.mem_append_left _ h)))))))), (show ∀ b ∈ (ob0 :: (ob0_1 :: (ownB hp0_1_0 ++ (ob0_2 :: (ownB hp0_2_0 ++ (ownB hp0_3 ++ (ownB hp0_4 ++ L))))))), b < w266.heap.size from (fun i h => cx272.lt i (.tail _ h))), cx272.g⟩)
 replace h := (ifN hb180).symm.trans h
 refine wp_seq ?_
 refine reg ?_
 refine s1 pg179.z (okEq s178 cst) rfl fun a283 p284 s285 => ?_
 refine s1 p284.z (okAs s285) rfl fun a286 p287 s288 => ?_
 refine rN (thenN ?_)
 refine cnd s288 (fun hb289 => ?_) (fun hb289 => ?_)
 ·replace h := (ifP hb289).symm.trans h
  refine regT 16 mixed (by kernel_rfl) ?_
  have g290 := G.drew w10
  have cx291 := cx16.ca g290
  have s292 := p287.o (p284.o (pg179.o (pg37.o s0_2 rfl) rfl) rfl) rfl
  refine t1 p287.z (okMv s292) rfl fun a293 p294 s295 => ?_
  have s296 := p294.o (p287.o (p284.o (pg179.o s34 rfl) rfl) rfl) rfl
  refine t1 p294.z (okFA (o' := 1) fo40_1 s296 rfl) rfl fun a297 p298 s299 => ?_
  have m300 := m13.g0 g290
  refine t1 p298.z (okLd (j := 1) na3 s299 (m300.cl) rfl rfl) rfl fun a301 p302 s303 => ?_
  have s304 := p302.o (p298.o (p294.o s292 rfl) rfl) rfl
  refine t1 p302.z (okMv s304) rfl fun a305 p306 s307 => ?_
  have s308 := p306.o (p302.o (p298.o s296 rfl) rfl) rfl
  refine t1 p306.z (okFA (o' := 2) fo40_2 s308 rfl) rfl fun a309 p310 s311 => ?_
  refine t1 p310.z (okLd (j := 2) na3 s311 (m300.cl) rfl rfl) rfl fun a312 p313 s314 => ?_
  have s315 := p313.o (p310.o s307 rfl) rfl
  refine t1 p313.z (okNil s315) rfl fun a316 p317 s318 => ?_
  refine t1 p317.z (okFA (o' := x2.toNat * 17 + 1) fo66_1 s318 rfl) rfl fun a319 p320 s321 => ?_
  have s322 := p320.o (p317.o s314 rfl) rfl
  by_cases hi323 : 0 ≤ x1.b ∧ x1.b < 16
  case neg => rw [if_neg hi323] at h; cases h
  replace h := (if_pos hi323).symm.trans h
  refine t1 p320.z (okIA Try.underlying64 Try.sizeOf2 s321 s322 hi323) rfl fun a324 p325 s326 => ?_
  have e327 := (e6.g0 g14).g0 g290
  refine t1 p325.z (okLd (j := 1 + x1.b.toNat) na2 s326 e327 (Nat.add_assoc _ _ _).symm (TFrame.C_r_get _ hi323)) rfl fun a328 p329 s330 => ?_
  have s331 := p329.o (p325.o (p320.o (p317.o (p313.o (p310.o s308 rfl) rfl) rfl) rfl) rfl) rfl
  refine t1 p329.z (okFA (o' := 4) fo40_4 s331 rfl) rfl fun a332 p333 s334 => ?_
  refine t1 p333.z (okLd (j := 4) na2 s334 (m300.cl) rfl rfl) rfl fun a335 p336 s337 => ?_
  have s338 := p336.o (p333.o s330 rfl) rfl
  refine t1 p336.z (okAdd s338 s337) rfl fun a339 p340 s341 => ?_
  have s342 := p340.o (p336.o (p333.o (p329.o (p325.o (p320.o (p317.o (p313.o (p310.o (p306.o (p302.o (p298.o s295 rfl) rfl) rfl) rfl) rfl) rfl) rfl) rfl) rfl) rfl) rfl) rfl
  refine t1 p340.z (okNil s342) rfl fun a343 p344 s345 => ?_
  refine t1 p344.z (okFA (o' := x2.toNat * 17 + 1) fo66_1 s345 rfl) rfl fun a346 p347 s348 => ?_
  have s349 := p347.o (p344.o (p340.o (p336.o (p333.o (p329.o (p325.o (p320.o (p317.o (p313.o (p310.o (p306.o s303 rfl) rfl) rfl) rfl) rfl) rfl) rfl) rfl) rfl) rfl) rfl) rfl
  by_cases hi350 : 0 ≤ x1.a ∧ x1.a < 16
  case neg => rw [if_neg hi350] at h; cases h
  replace h := (if_pos hi350).symm.trans h
  refine t1 p347.z (okIA Try.underlying64 Try.sizeOf2 s348 s349 hi350) rfl fun a351 p352 s353 => ?_
  refine tN ?_
  have s354 := p352.o (p347.o (p344.o s341 rfl) rfl) rfl
  have q355 := (qhp0_3.t0 (g14.tA (Nat.le_of_eq e15.symm)) g14).t0 g290.t0 g290
  have m359 := (mob0.g0 g14).g0 g290
  have m360 := (mob0_1.g0 g14).g0 g290
  have m361 := (mob0_2.g0 g14).g0 g290
  refine lS (oStoE (K := KTFrame) (e' := ({ y1 with r := y1.r.set x1.a (w64 ((y1.r.get x1.b) + x1.n)) })) (vs := [.int .i64 (w64 ((y1.r.get x1.b) + x1.n))]) (j := 1 + x1.a.toNat) p352.z s353 s354 q355 hy2 eb2 e327 (fun _ h => (.tail _ (.tail _ (.tail _ (List.mem_append_right _ (.tail _ (List.mem_append_right _ (List.mem_append_left _ h)))))))) (Nat.add_assoc _ _ _).symm Try.sizeOf2 rfl one1 rfl (ble (by have := hi350; show 1 + _ + 1 ≤ 17; omega)) (TFrame.C_r_set _ hi350 _) rfl fun w356 q357 g358 => ?_)
  have cx362 := cx291.cs g358 (fun _ h => .inl (.tail _ (.tail _ (List.mem_append_right _ (.tail _ (List.mem_append_right _ (List.mem_append_left _ h)))))))
  refine rN (blkN (thenN ?_))
  refine wp_seq ?_
  refine reg ?_
  refine s1 p352.z (okAs cst) rfl fun a363 p364 s365 => ?_
  refine rN (thenN ?_)
  obtain rfl := Option.some.inj h
  have m366 := m359.g g358 (D.bo (i := 0) (j := 5) rfl rfl rfl)
  have q367 := qhp0_0.mono (((g14.tA (Nat.le_of_eq e15.symm)).trans g290.t0).trans (g358.t (fun _ h => (.tail _ (.tail _ (.tail _ (List.mem_append_right _ (.tail _ (List.mem_append_right _ (List.mem_append_left _ h))))))))))
  have m368 := m360.g g358 (D.bo (i := 1) (j := 5) rfl rfl rfl)
  have q369 := ((qhp0_1_0.t0 (g14.tA (Nat.le_of_eq e15.symm)) g14).t0 g290.t0 g290).tr (g358.t (fun _ h => (.tail _ (.tail _ (.tail _ (List.mem_append_right _ (.tail _ (List.mem_append_right _ (List.mem_append_left _ h))))))))) g358 (D.dj (i := 2) (j := 5) rfl rfl rfl)
  have m370 := m361.g g358 (D.bo (i := 3) (j := 5) rfl rfl rfl)
  have q371 := ((qhp0_2_0.t0 (g14.tA (Nat.le_of_eq e15.symm)) g14).t0 g290.t0 g290).tr (g358.t (fun _ h => (.tail _ (.tail _ (.tail _ (List.mem_append_right _ (.tail _ (List.mem_append_right _ (List.mem_append_left _ h))))))))) g358 (D.dj (i := 4) (j := 5) rfl rfl rfl)
  have q372 := ((qhp0_4.t0 (g14.tA (Nat.le_of_eq e15.symm)) g14).t0 g290.t0 g290).tr (g358.t (fun _ h => (.tail _ (.tail _ (.tail _ (List.mem_append_right _ (.tail _ (List.mem_append_right _ (List.mem_append_left _ h))))))))) g358 (djs (D.dj (i := 5) (j := 6) rfl rfl rfl))
  exact wp_ret (ret1 p364.z Try.results37 (rvT s365) ⟨_, rfl, hp0_1_0, hp0_4, rfl, m366, (q367.mono ((Tr.refl _ _).sub (fun i h => (.tail _ h)))), m368, (q369.sub (fun i h => (.tail _ h))), m370, (q371.sub (fun i h => (.tail _ h))), (q357.sub (fun i h => (.tail _ h))), (q372.sub (fun i h => (.tail _ h))), (sepC (show ∀ x ∈ [ob0], x ∉ (ob0_1 :: (ownB hp0_1_0 ++ (ob0_2 :: (ownB hp0_2_0 ++ (ownB hp0_3 ++ (ownB hp0_4 ++ L)))))) from (in1 (nc (D.bb (i := 0) (j := 1) rfl rfl rfl) (na (D.bo (i := 0) (j := 2) rfl rfl rfl) (nc (D.bb (i := 0) (j := 3) rfl rfl rfl) (na (D.bo (i := 0) (j := 4) rfl rfl rfl) (na (D.bo (i := 0) (j := 5) rfl rfl rfl) (na (D.bo (i := 0) (j := 6) rfl rfl rfl) (D.bl (i := 0) rfl))))))))) (sepC (show ∀ x ∈ [ob0_1], x ∉ (ownB hp0_1_0 ++ (ob0_2 :: (ownB hp0_2_0 ++ (ownB hp0_3 ++ (ownB hp0_4 ++ L))))) from (in1 (na (D.bo (i := 1) (j := 2) rfl rfl rfl) (nc (D.bb (i := 1) (j := 3) rfl rfl rfl) (na (D.bo (i := 1) (j := 4) rfl rfl rfl) (na (D.bo (i := 1) (j := 5) rfl rfl rfl) (na (D.bo (i := 1) (j := 6) rfl rfl rfl) (D.bl (i := 1) rfl)))))))) (sepC (show ∀ x ∈ ownB hp0_1_0, x ∉ (ob0_2 :: (ownB hp0_2_0 ++ (ownB hp0_3 ++ (ownB hp0_4 ++ L)))) from (fun x hx => (nc (nbo (D.ob (i := 2) (j := 3) rfl rfl rfl) hx) (na ((D.dj (i := 2) (j := 4) rfl rfl rfl) x hx) (na ((D.dj (i := 2) (j := 5) rfl rfl rfl) x hx) (na ((D.dj (i := 2) (j := 6) rfl rfl rfl) x hx) ((D.dl (i := 2) rfl) x hx))))))) (sepC (show ∀ x ∈ [ob0_2], x ∉ (ownB hp0_2_0 ++ (ownB hp0_3 ++ (ownB hp0_4 ++ L))) from (in1 (na (D.bo (i := 3) (j := 4) rfl rfl rfl) (na (D.bo (i := 3) (j := 5) rfl rfl rfl) (na (D.bo (i := 3) (j := 6) rfl rfl rfl) (D.bl (i := 3) rfl)))))) (sepC (show ∀ x ∈ ownB hp0_2_0, x ∉ (ownB hp0_3 ++ (ownB hp0_4 ++ L)) from (fun x hx => (na ((D.dj (i := 4) (j := 5) rfl rfl rfl) x hx) (na ((D.dj (i := 4) (j := 6) rfl rfl rfl) x hx) ((D.dl (i := 4) rfl) x hx))))) (sepC (show ∀ x ∈ ownB hp0_3, x ∉ (ownB hp0_4 ++ L) from (fun x hx => (na ((D.dj (i := 5) (j := 6) rfl rfl rfl) x hx) ((D.dl (i := 5) rfl) x hx)))) (sepC (show ∀ x ∈ ownB hp0_4, x ∉ L from (fun x hx => ((D.dl (i := 6) rfl) x hx))) sepN))))))), (fun _ h => .inl (.tail _ (.tail _ (List.mem_append_left _ h)))), (fun _ h => .inl (.tail _ (.tail _ (List.mem_append_right _ (.tail _ (List.mem_append_right _ (List.mem_append_right _ (List.mem_append_left _ h)))))))), (show ∀ b ∈ (ob0 :: (ob0_1 :: (ownB hp0_1_0 ++ (ob0_2 :: (ownB hp0_2_0 ++ (ownB hp0_3 ++ (ownB hp0_4 ++ L))))))), b < w356.heap.size from (fun i h => cx362.lt i (.tail _ h))), cx362.g⟩)
 replace h := (ifN hb289).symm.trans h
 refine wp_seq ?_
 refine reg ?_
 have s373 := p287.o (p284.o s178 rfl) rfl
 refine s1 p287.z (okEq s373 cst) rfl fun a374 p375 s376 => ?_
 refine s1 p375.z (okAs s376) rfl fun a377 p378 s379 => ?_
 refine rN (thenN ?_)
 have s380 := p378.o (p375.o s373 rfl) rfl
 have pg381 : Pg _ [62, 63, 80, 81] _ _ := (((((Pg.refl pg179.z).st p284 rfl).st p287 rfl).st p375 rfl).st p378 rfl)
 refine cnd s379 (fun hb382 => ?_) (fun hb382 => ?_)
 ·replace h := (ifP hb382).symm.trans h
  refine wp_seq ?_
  refine regS mixed (by kernel_rfl) ?_
  have g383 := G.drew w10
  have cx384 := cx16.ca g383
  have s385 := pg381.o (pg179.o (pg37.o s0_2 rfl) rfl) rfl
  refine t1 pg381.z (okMv s385) rfl fun a386 p387 s388 => ?_
  have s389 := p387.o (pg381.o (pg179.o s34 rfl) rfl) rfl
  refine t1 p387.z (okFA (o' := 1) fo40_1 s389 rfl) rfl fun a390 p391 s392 => ?_
  have m393 := m13.g0 g383
  refine t1 p391.z (okLd (j := 1) na3 s392 (m393.cl) rfl rfl) rfl fun a394 p395 s396 => ?_
  have s397 := p395.o (p391.o s388 rfl) rfl
  refine t1 p395.z (okNil s397) rfl fun a398 p399 s400 => ?_
  refine t1 p399.z (okFA (o' := x2.toNat * 17 + 1) fo66_1 s400 rfl) rfl fun a401 p402 s403 => ?_
  have s404 := p402.o (p399.o s396 rfl) rfl
  by_cases hi405 : 0 ≤ x1.a ∧ x1.a < 16
  case neg => rw [if_neg hi405] at h; cases h
  replace h := (if_pos hi405).symm.trans h
  refine t1 p402.z (okIA Try.underlying64 Try.sizeOf2 s403 s404 hi405) rfl fun a406 p407 s408 => ?_
  have e409 := (e6.g0 g14).g0 g383
  refine t1 p407.z (okLd (j := 1 + x1.a.toNat) na2 s408 e409 (Nat.add_assoc _ _ _).symm (TFrame.C_r_get _ hi405)) rfl fun a410 p411 s412 => ?_
  refine t1 p411.z (okAs s412) rfl fun a413 p414 s415 => ?_
  refine tN (thenN ?_)
  refine wp_seq ?_
  refine reg ?_
  refine s1 p414.z (okMv s415) rfl fun a416 p417 s418 => ?_
  refine s1 p417.z (okGe s418 cst) rfl fun a419 p420 s421 => ?_
  refine s1 p420.z (okMv s421) rfl fun a422 p423 s424 => ?_
  refine cutP 3 (fun a' => Pg Try.f37.ntmps [92, 93, 94] a422 a' ∧ a'.eval (.tmp 94) = .bool ((decide (0 ≤ y1.r.get x1.a)) && (decide (y1.r.get x1.a < 8)))) ?_ ?_
  ·rcases bf (decide (0 ≤ y1.r.get x1.a)) with hb425 | hb425
   ·have s426 := bv s424 hb425
    refine s1k p423.z rfl (yd p423.z rfl rfl s426) rfl fun a427 p428 s429 => ?_
    have s430 := p428.o s426 rfl
    refine s1k p428.z rfl (yd p428.z rfl rfl s430) rfl fun a431 p432 s433 => ?_
    have s434 := p432.o s430 rfl
    refine s1 p432.z (okPickF s434 cst) rfl fun a435 p436 s437 => ?_
    exact rN ⟨rfl, rfl, ((((Pg.refl p423.z).st p428 rfl).st p432 rfl).st p436 rfl), (andF hb425 s437)⟩
   ·have s438 := bv s424 hb425
    have s439 := p423.o (p420.o (p417.o s415 rfl) rfl) rfl
    refine s1g p423.z (okMv s439) rfl (yd p423.z rfl rfl s438) fun a440 p441 s442 => ?_
    have s443 := p441.o s438 rfl
    refine s1g p441.z (okLt s442 cst) rfl (yd p441.z rfl rfl s443) fun a444 p445 s446 => ?_
    have s447 := p445.o s443 rfl
    refine s1 p445.z (okPickT s447 s446) rfl fun a448 p449 s450 => ?_
    exact rN ⟨rfl, rfl, ((((Pg.refl p423.z).st p441 rfl).st p445 rfl).st p449 rfl), (andT hb425 s450)⟩
  rintro a451 ⟨pg452, s453⟩
  refine s1 pg452.z (okMv s453) rfl fun a454 p455 s456 => ?_
  rcases bf ((decide (0 ≤ y1.r.get x1.a)) && (decide (y1.r.get x1.a < 8))) with hb457 | hb457
  ·have s458 := bv s456 hb457
   replace h := (ifN hb457).symm.trans h
   refine s1k p455.z rfl (yd p455.z rfl rfl s458) rfl fun a459 p460 s461 => ?_
   have s462 := p460.o s458 rfl
   refine s1k p460.z rfl (yd p460.z rfl rfl s462) rfl fun a463 p464 s465 => ?_
   have s466 := p464.o s462 rfl
   refine s1k p464.z rfl (yd p464.z rfl rfl s466) rfl fun a467 p468 s469 => ?_
   have s470 := p468.o s466 rfl
   refine s1k p468.z rfl (yd p468.z rfl rfl s470) rfl fun a471 p472 s473 => ?_
   have s474 := p472.o s470 rfl
   refine s1k p472.z rfl (yd p472.z rfl rfl s474) rfl fun a475 p476 s477 => ?_
   have s478 := p476.o s474 rfl
   refine s1k p476.z rfl (yd p476.z rfl rfl s478) rfl fun a479 p480 s481 => ?_
   have s482 := p480.o s478 rfl
   refine s1k p480.z rfl (yd p480.z rfl rfl s482) rfl fun a483 p484 s485 => ?_
   have s486 := p484.o s482 rfl
   refine s1 p484.z (okPickF s486 cst) rfl fun a487 p488 s489 => ?_
   refine s1 p488.z (okAs s489) rfl fun a490 p491 s492 => ?_
   refine rN (thenN ?_)
   obtain rfl := Option.some.inj h
   have m493 := (mob0.g0 g14).g0 g383
   have q494 := qhp0_0.mono ((g14.tA (Nat.le_of_eq e15.symm)).trans g383.t0)
   have m495 := (mob0_1.g0 g14).g0 g383
   have q496 := (qhp0_1_0.t0 (g14.tA (Nat.le_of_eq e15.symm)) g14).t0 g383.t0 g383
   have m497 := (mob0_2.g0 g14).g0 g383
   have q498 := (qhp0_2_0.t0 (g14.tA (Nat.le_of_eq e15.symm)) g14).t0 g383.t0 g383
   have q499 := (qhp0_3.t0 (g14.tA (Nat.le_of_eq e15.symm)) g14).t0 g383.t0 g383
   have q500 := (qhp0_4.t0 (g14.tA (Nat.le_of_eq e15.symm)) g14).t0 g383.t0 g383
   exact wp_ret (blkR (thenR (ret1 p491.z Try.results37 (rvT s492) ⟨_, rfl, hp0_1_0, hp0_4, rfl, m493, (q494.mono ((Tr.refl _ _).sub (fun i h => (.tail _ h)))), m495, (q496.sub (fun i h => (.tail _ h))), m497, (q498.sub (fun i h => (.tail _ h))), (q499.sub (fun i h => (.tail _ h))), (q500.sub (fun i h => (.tail _ h))), (sepC (show ∀ x ∈ [ob0], x ∉ (ob0_1 :: (ownB hp0_1_0 ++ (ob0_2 :: (ownB hp0_2_0 ++ (ownB hp0_3 ++ (ownB hp0_4 ++ L)))))) from (in1 (nc (D.bb (i := 0) (j := 1) rfl rfl rfl) (na (D.bo (i := 0) (j := 2) rfl rfl rfl) (nc (D.bb (i := 0) (j := 3) rfl rfl rfl) (na (D.bo (i := 0) (j := 4) rfl rfl rfl) (na (D.bo (i := 0) (j := 5) rfl rfl rfl) (na (D.bo (i := 0) (j := 6) rfl rfl rfl) (D.bl (i := 0) rfl))))))))) (sepC (show ∀ x ∈ [ob0_1], x ∉ (ownB hp0_1_0 ++ (ob0_2 :: (ownB hp0_2_0 ++ (ownB hp0_3 ++ (ownB hp0_4 ++ L))))) from (in1 (na (D.bo (i := 1) (j := 2) rfl rfl rfl) (nc (D.bb (i := 1) (j := 3) rfl rfl rfl) (na (D.bo (i := 1) (j := 4) rfl rfl rfl) (na (D.bo (i := 1) (j := 5) rfl rfl rfl) (na (D.bo (i := 1) (j := 6) rfl rfl rfl) (D.bl (i := 1) rfl)))))))) (sepC (show ∀ x ∈ ownB hp0_1_0, x ∉ (ob0_2 :: (ownB hp0_2_0 ++ (ownB hp0_3 ++ (ownB hp0_4 ++ L)))) from (fun x hx => (nc (nbo (D.ob (i := 2) (j := 3) rfl rfl rfl) hx) (na ((D.dj (i := 2) (j := 4) rfl rfl rfl) x hx) (na ((D.dj (i := 2) (j := 5) rfl rfl rfl) x hx) (na ((D.dj (i := 2) (j := 6) rfl rfl rfl) x hx) ((D.dl (i := 2) rfl) x hx))))))) (sepC (show ∀ x ∈ [ob0_2], x ∉ (ownB hp0_2_0 ++ (ownB hp0_3 ++ (ownB hp0_4 ++ L))) from (in1 (na (D.bo (i := 3) (j := 4) rfl rfl rfl) (na (D.bo (i := 3) (j := 5) rfl rfl rfl) (na (D.bo (i := 3) (j := 6) rfl rfl rfl) (D.bl (i := 3) rfl)))))) (sepC (show ∀ x ∈ ownB hp0_2_0, x ∉ (ownB hp0_3 ++ (ownB hp0_4 ++ L)) from (fun x hx => (na ((D.dj (i := 4) (j := 5) rfl rfl rfl) x hx) (na ((D.dj (i := 4) (j := 6) rfl rfl rfl) x hx) ((D.dl (i := 4) rfl) x hx))))) (sepC (show ∀ x ∈ ownB hp0_3, x ∉ (ownB hp0_4 ++ L) from (fun x hx => (na ((D.dj (i := 5) (j := 6) rfl rfl rfl) x hx) ((D.dl (i := 5) rfl) x hx)))) (sepC (show ∀ x ∈ ownB hp0_4, x ∉ L from (fun x hx => ((D.dl (i := 6) rfl) x hx))) sepN))))))), (fun _ h => .inl (.tail _ (.tail _ (List.mem_append_left _ h)))), (fun _ h => .inl (.tail _ (.tail _ (List.mem_append_right _ (.tail _ (List.mem_append_right _ (List.mem_append_right _ (List.mem_append_left _ h)))))))), (show ∀ b ∈ (ob0 :: (ob0_1 :: (ownB hp0_1_0 ++ (ob0_2 :: (ownB hp0_2_0 ++ (ownB hp0_3 ++ (ownB hp0_4 ++ L))))))), b < w10.drew.heap.size from (fun i h => cx384.lt i (.tail _ h))), cx384.g⟩)))
  ·have s501 := bv s456 hb457
   replace h := (ifP hb457).symm.trans h
   have s502 := p455.o (pg452.o (p423.o (p420.o (p417.o (p414.o (p411.o (p407.o (p402.o (p399.o (p395.o (p391.o (p387.o (pg381.o (pg179.o (pg37.o s0_0 rfl) rfl) rfl) rfl) rfl) rfl) rfl) rfl) rfl) rfl) rfl) rfl) rfl) rfl) rfl) rfl
   refine s1g p455.z (okMv s502) rfl (yd p455.z rfl rfl s501) fun a503 p504 s505 => ?_
   have s506 := p504.o s501 rfl
   refine s1g p504.z (okNil s505) rfl (yd p504.z rfl rfl s506) fun a507 p508 s509 => ?_
   have s510 := p508.o s506 rfl
   refine s1g p508.z (okFA (o' := 2) fo68_2 s509 rfl) rfl (yd p508.z rfl rfl s510) fun a511 p512 s513 => ?_
   have s514 := p512.o s510 rfl
   have m515 := (mob0.g0 g14).g0 g383
   refine s1g p512.z (okLd (j := 2) na25 s513 (m515.cl) rfl rfl) rfl (yd p512.z rfl rfl s514) fun a516 p517 s518 => ?_
   have s519 := p517.o s514 rfl
   have s520 := p517.o (p512.o (p508.o (p504.o (p455.o (pg452.o (p423.o (p420.o (p417.o s415 rfl) rfl) rfl) rfl) rfl) rfl) rfl) rfl) rfl
   refine s1g p517.z (okMv s520) rfl (yd p517.z rfl rfl s519) fun a521 p522 s523 => ?_
   have s524 := p522.o s519 rfl
   have s525 := p522.o s518 rfl
   have m526 := (mob0_2.g0 g14).g0 g383
   have q527 := (qhp0_2_0.t0 (g14.tA (Nat.le_of_eq e15.symm)) g14).t0 g383.t0 g383
   have m528 := (mob0_1.g0 g14).g0 g383
   obtain ⟨t529, ht530, h⟩ := Option.bind_eq_some_iff.1 h
   refine lG rfl (yd p522.z rfl rfl s524) (oCall p522.z Try.call40 (ag2 s525 s523) (c40 (b11 :: (ob0 :: (ob0_1 :: (ownB hp0_1_0 ++ (ownB hp0_3 ++ (ownB hp0_4 ++ L)))))) w10.drew x0.t ob0_2 hp0_2_0 (y1.r.get x1.a) (fun i h => cx384.lt i ((List.mem_cons.1 h).elim (fun e => e ▸ (.tail _ (.tail _ (.tail _ (List.mem_append_right _ (.head _)))))) (fun h => (List.mem_append.1 h).elim (fun h => (.tail _ (.tail _ (.tail _ (List.mem_append_right _ (.tail _ (List.mem_append_left _ h))))))) (fun h => (List.mem_cons.1 h).elim (fun e => e ▸ (.head _)) (fun h => (List.mem_cons.1 h).elim (fun e => e ▸ (.tail _ (.head _))) (fun h => (List.mem_cons.1 h).elim (fun e => e ▸ (.tail _ (.tail _ (.head _)))) (fun h => (List.mem_append.1 h).elim (fun h => (.tail _ (.tail _ (.tail _ (List.mem_append_left _ h))))) (fun h => (.tail _ (.tail _ (.tail _ (List.mem_append_right _ (.tail _ (List.mem_append_right _ h)))))))))))))) (sepC (show ∀ x ∈ [ob0_2], x ∉ (ownB hp0_2_0 ++ (b11 :: (ob0 :: (ob0_1 :: (ownB hp0_1_0 ++ (ownB hp0_3 ++ (ownB hp0_4 ++ L))))))) from (in1 (na (D.bo (i := 3) (j := 4) rfl rfl rfl) (nc (mob0_2.ne e15) (nc (D.bb (i := 0) (j := 3) rfl rfl rfl).symm (nc (D.bb (i := 1) (j := 3) rfl rfl rfl).symm (na (D.ob (i := 2) (j := 3) rfl rfl rfl) (na (D.bo (i := 3) (j := 5) rfl rfl rfl) (na (D.bo (i := 3) (j := 6) rfl rfl rfl) (D.bl (i := 3) rfl)))))))))) (sepC (show ∀ x ∈ ownB hp0_2_0, x ∉ (b11 :: (ob0 :: (ob0_1 :: (ownB hp0_1_0 ++ (ownB hp0_3 ++ (ownB hp0_4 ++ L)))))) from (fun x hx => (nc (nbo (qhp0_2_0.nb e15) hx) (nc (nbo (D.bo (i := 0) (j := 4) rfl rfl rfl) hx) (nc (nbo (D.bo (i := 1) (j := 4) rfl rfl rfl) hx) (na ((djs (D.dj (i := 2) (j := 4) rfl rfl rfl)) x hx) (na ((D.dj (i := 4) (j := 5) rfl rfl rfl) x hx) (na ((D.dj (i := 4) (j := 6) rfl rfl rfl) x hx) ((D.dl (i := 4) rfl) x hx))))))))) sepN)) m526 (q527.sub (fun i h => (List.mem_cons.1 h).elim (fun e => e ▸ (.tail _ (.tail _ (.tail _ (List.mem_append_right _ (.head _)))))) (fun h => (List.mem_append.1 h).elim (fun h => (.tail _ (.tail _ (.tail _ (List.mem_append_right _ (.tail _ (List.mem_append_left _ h))))))) (fun h => (List.mem_cons.1 h).elim (fun e => e ▸ (.head _)) (fun h => (List.mem_cons.1 h).elim (fun e => e ▸ (.tail _ (.head _))) (fun h => (List.mem_cons.1 h).elim (fun e => e ▸ (.tail _ (.tail _ (.head _)))) (fun h => (List.mem_append.1 h).elim (fun h => (.tail _ (.tail _ (.tail _ (List.mem_append_left _ h))))) (fun h => (.tail _ (.tail _ (.tail _ (List.mem_append_right _ (.tail _ (List.mem_append_right _ h)))))))))))))) _ ht530) rfl fun v534 a531 w532 hp535 p533 sp533 => ?_)
   obtain ⟨h536, rfl, q537, m538, q539, D540, lt541, g542⟩ := hp535
   have hs543 : ∀ i ∈ (ob0_2 :: (ownB hp0_2_0 ++ [])), i ∈ (ob0 :: (ob0_1 :: (ownB hp0_1_0 ++ (ob0_2 :: (ownB hp0_2_0 ++ (ownB hp0_3 ++ (ownB hp0_4 ++ []))))))) ∨ w.heap.size ≤ i := (memC (.inl (.tail _ (.tail _ (List.mem_append_right _ (.head _))))) (memA (fun _ h => .inl (.tail _ (.tail _ (List.mem_append_right _ (.tail _ (List.mem_append_left _ h)))))) memN))
   have hs544 : ∀ i ∈ (ob0_2 :: (ownB hp0_2_0 ++ [])), i ∈ (b11 :: (ob0 :: (ob0_1 :: (ownB hp0_1_0 ++ (ob0_2 :: (ownB hp0_2_0 ++ (ownB hp0_3 ++ (ownB hp0_4 ++ L)))))))) := (memC (.tail _ (.tail _ (.tail _ (List.mem_append_right _ (.head _))))) (memA (fun _ h => (.tail _ (.tail _ (.tail _ (List.mem_append_right _ (.tail _ (List.mem_append_left _ h))))))) memN))
   have t545 : Tr (b11 :: (ob0 :: (ob0_1 :: (ownB hp0_1_0 ++ (ob0_2 :: (ownB hp0_2_0 ++ (ownB hp0_3 ++ (ownB hp0_4 ++ L)))))))) w10.drew (ob0_2 :: (ownB hp0_2_0 ++ (b11 :: (ob0 :: (ob0_1 :: (ownB hp0_1_0 ++ (ownB hp0_3 ++ (ownB hp0_4 ++ L)))))))) w532 := G.tC g542 hs544 (memC (.inl (.tail _ (.tail _ (.tail _ (List.mem_append_right _ (.head _)))))) (memA (fun _ h => .inl (.tail _ (.tail _ (.tail _ (List.mem_append_right _ (.tail _ (List.mem_append_left _ h))))))) (fun i h => .inl ((List.mem_cons.1 h).elim (fun e => e ▸ (.head _)) (fun h => (List.mem_cons.1 h).elim (fun e => e ▸ (.tail _ (.head _))) (fun h => (List.mem_cons.1 h).elim (fun e => e ▸ (.tail _ (.tail _ (.head _)))) (fun h => (List.mem_append.1 h).elim (fun h => (.tail _ (.tail _ (.tail _ (List.mem_append_left _ h))))) (fun h => (.tail _ (.tail _ (.tail _ (List.mem_append_right _ (.tail _ (List.mem_append_right _ h))))))))))))))
   have cx546 := cx384.gs g542 hs543 lt541
   have s547 := p533.o s524 rfl
   refine s1g p533.z (okEEqN ef33 sp533 q537 _) rfl (yd p533.z rfl rfl s547) fun a548 p549 s550 => ?_
   have s551 := p549.o s547 rfl
   refine s1 p549.z (okPickT s551 s550) rfl fun a552 p553 s554 => ?_
   refine s1 p553.z (okAs s554) rfl fun a555 p556 s557 => ?_
   refine rN (thenN ?_)
   obtain rfl := Option.some.inj h
   have m558 := m515.g g542 (nc (D.bb (i := 0) (j := 3) rfl rfl rfl) (na (D.bo (i := 0) (j := 4) rfl rfl rfl) not_nil))
   have q559 := qhp0_0.mono (((g14.tA (Nat.le_of_eq e15.symm)).trans g383.t0).trans t545)
   have m560 := m528.g g542 (nc (D.bb (i := 1) (j := 3) rfl rfl rfl) (na (D.bo (i := 1) (j := 4) rfl rfl rfl) not_nil))
   have q561 := ((qhp0_1_0.t0 (g14.tA (Nat.le_of_eq e15.symm)) g14).t0 g383.t0 g383).tr t545 g542 (fun x hx => (nc (nbo (D.ob (i := 2) (j := 3) rfl rfl rfl) hx) (na ((D.dj (i := 2) (j := 4) rfl rfl rfl) x hx) not_nil)))
   have q562 := ((qhp0_3.t0 (g14.tA (Nat.le_of_eq e15.symm)) g14).t0 g383.t0 g383).tr t545 g542 (fun x hx => (nc (nbo (D.bo (i := 3) (j := 5) rfl rfl rfl) hx) (na ((djs (D.dj (i := 4) (j := 5) rfl rfl rfl)) x hx) not_nil)))
   have q563 := ((qhp0_4.t0 (g14.tA (Nat.le_of_eq e15.symm)) g14).t0 g383.t0 g383).tr t545 g542 (fun x hx => (nc (nbo (D.bo (i := 3) (j := 6) rfl rfl rfl) hx) (na ((djs (D.dj (i := 4) (j := 6) rfl rfl rfl)) x hx) not_nil)))
   exact wp_ret (blkR (thenR (ret1 p556.z Try.results37 (rvT s557) ⟨_, rfl, hp0_1_0, hp0_4, rfl, m558, (q559.mono ((Tr.refl _ _).sub (fun i h => (List.mem_cons.1 h).elim (fun e => e ▸ (.tail _ (List.mem_append_right _ (.tail _ (.head _))))) (fun h => (List.mem_cons.1 h).elim (fun e => e ▸ (.tail _ (List.mem_append_right _ (.tail _ (.tail _ (.head _)))))) (fun h => (List.mem_append.1 h).elim (fun h => (.tail _ (List.mem_append_right _ (.tail _ (.tail _ (.tail _ (List.mem_append_left _ h))))))) (fun h => (List.mem_cons.1 h).elim (fun e => e ▸ (.head _)) (fun h => (List.mem_append.1 h).elim (fun h => (.tail _ (List.mem_append_left _ h))) (fun h => (.tail _ (List.mem_append_right _ (.tail _ (.tail _ (.tail _ (List.mem_append_right _ h)))))))))))))), m560, (q561.sub (fun i h => (List.mem_cons.1 h).elim (fun e => e ▸ (.tail _ (List.mem_append_right _ (.tail _ (.head _))))) (fun h => (List.mem_cons.1 h).elim (fun e => e ▸ (.tail _ (List.mem_append_right _ (.tail _ (.tail _ (.head _)))))) (fun h => (List.mem_append.1 h).elim (fun h => (.tail _ (List.mem_append_right _ (.tail _ (.tail _ (.tail _ (List.mem_append_left _ h))))))) (fun h => (List.mem_cons.1 h).elim (fun e => e ▸ (.head _)) (fun h => (List.mem_append.1 h).elim (fun h => (.tail _ (List.mem_append_left _ h))) (fun h => (.tail _ (List.mem_append_right _ (.tail _ (.tail _ (.tail _ (List.mem_append_right _ h))))))))))))), m538, (q539.sub (fun i h => (List.mem_cons.1 h).elim (fun e => e ▸ (.tail _ (List.mem_append_right _ (.tail _ (.head _))))) (fun h => (List.mem_cons.1 h).elim (fun e => e ▸ (.tail _ (List.mem_append_right _ (.tail _ (.tail _ (.head _)))))) (fun h => (List.mem_append.1 h).elim (fun h => (.tail _ (List.mem_append_right _ (.tail _ (.tail _ (.tail _ (List.mem_append_left _ h))))))) (fun h => (List.mem_cons.1 h).elim (fun e => e ▸ (.head _)) (fun h => (List.mem_append.1 h).elim (fun h => (.tail _ (List.mem_append_left _ h))) (fun h => (.tail _ (List.mem_append_right _ (.tail _ (.tail _ (.tail _ (List.mem_append_right _ h))))))))))))), (q562.sub (fun i h => (List.mem_cons.1 h).elim (fun e => e ▸ (.tail _ (List.mem_append_right _ (.tail _ (.head _))))) (fun h => (List.mem_cons.1 h).elim (fun e => e ▸ (.tail _ (List.mem_append_right _ (.tail _ (.tail _ (.head _)))))) (fun h => (List.mem_append.1 h).elim (fun h => (.tail _ (List.mem_append_right _ (.tail _ (.tail _ (.tail _ (List.mem_append_left _ h))))))) (fun h => (List.mem_cons.1 h).elim (fun e => e ▸ (.head _)) (fun h => (List.mem_append.1 h).elim (fun h => (.tail _ (List.mem_append_left _ h))) (fun h => (.tail _ (List.mem_append_right _ (.tail _ (.tail _ (.tail _ (List.mem_append_right _ h))))))))))))), (q563.sub (fun i h => (List.mem_cons.1 h).elim (fun e => e ▸ (.tail _ (List.mem_append_right _ (.tail _ (.head _))))) (fun h => (List.mem_cons.1 h).elim (fun e => e ▸ (.tail _ (List.mem_append_right _ (.tail _ (.tail _ (.head _)))))) (fun h => (List.mem_append.1 h).elim (fun h => (.tail _ (List.mem_append_right _ (.tail _ (.tail _ (.tail _ (List.mem_append_left _ h))))))) (fun h => (List.mem_cons.1 h).elim (fun e => e ▸ (.head _)) (fun h => (List.mem_append.1 h).elim (fun h => (.tail _ (List.mem_append_left _ h))) (fun h => (.tail _ (List.mem_append_right _ (.tail _ (.tail _ (.tail _ (List.mem_append_right _ h))))))))))))), (sepC (show ∀ x ∈ [ob0], x ∉ (ob0_1 :: (ownB hp0_1_0 ++ (ob0_2 :: (ownB hp0_2_0 ++ (ownB hp0_3 ++ (ownB hp0_4 ++ L)))))) from (in1 (nc (D.bb (i := 0) (j := 1) rfl rfl rfl) (na (D.bo (i := 0) (j := 2) rfl rfl rfl) (nc (D.bb (i := 0) (j := 3) rfl rfl rfl) (na (D.bo (i := 0) (j := 4) rfl rfl rfl) (na (D.bo (i := 0) (j := 5) rfl rfl rfl) (na (D.bo (i := 0) (j := 6) rfl rfl rfl) (D.bl (i := 0) rfl))))))))) (sepC (show ∀ x ∈ [ob0_1], x ∉ (ownB hp0_1_0 ++ (ob0_2 :: (ownB hp0_2_0 ++ (ownB hp0_3 ++ (ownB hp0_4 ++ L))))) from (in1 (na (D.bo (i := 1) (j := 2) rfl rfl rfl) (nc (D.bb (i := 1) (j := 3) rfl rfl rfl) (na (D.bo (i := 1) (j := 4) rfl rfl rfl) (na (D.bo (i := 1) (j := 5) rfl rfl rfl) (na (D.bo (i := 1) (j := 6) rfl rfl rfl) (D.bl (i := 1) rfl)))))))) (sepC (show ∀ x ∈ ownB hp0_1_0, x ∉ (ob0_2 :: (ownB hp0_2_0 ++ (ownB hp0_3 ++ (ownB hp0_4 ++ L)))) from (fun x hx => (nc (nbo (D.ob (i := 2) (j := 3) rfl rfl rfl) hx) (na ((D.dj (i := 2) (j := 4) rfl rfl rfl) x hx) (na ((D.dj (i := 2) (j := 5) rfl rfl rfl) x hx) (na ((D.dj (i := 2) (j := 6) rfl rfl rfl) x hx) ((D.dl (i := 2) rfl) x hx))))))) (sepC (show ∀ x ∈ [ob0_2], x ∉ (ownB hp0_2_0 ++ (ownB hp0_3 ++ (ownB hp0_4 ++ L))) from (in1 (na (D.bo (i := 3) (j := 4) rfl rfl rfl) (na (D.bo (i := 3) (j := 5) rfl rfl rfl) (na (D.bo (i := 3) (j := 6) rfl rfl rfl) (D.bl (i := 3) rfl)))))) (sepC (show ∀ x ∈ ownB hp0_2_0, x ∉ (ownB hp0_3 ++ (ownB hp0_4 ++ L)) from (fun x hx => (na ((D.dj (i := 4) (j := 5) rfl rfl rfl) x hx) (na ((D.dj (i := 4) (j := 6) rfl rfl rfl) x hx) ((D.dl (i := 4) rfl) x hx))))) (sepC (show ∀ x ∈ ownB hp0_3, x ∉ (ownB hp0_4 ++ L) from (fun x hx => (na ((D.dj (i := 5) (j := 6) rfl rfl rfl) x hx) ((D.dl (i := 5) rfl) x hx)))) (sepC (show ∀ x ∈ ownB hp0_4, x ∉ L from (fun x hx => ((D.dl (i := 6) rfl) x hx))) sepN))))))), (fun _ h => .inl (.tail _ (.tail _ (List.mem_append_left _ h)))), (fun _ h => .inl (.tail _ (.tail _ (List.mem_append_right _ (.tail _ (List.mem_append_right _ (List.mem_append_right _ (List.mem_append_left _ h)))))))), (show ∀ b ∈ (ob0 :: (ob0_1 :: (ownB hp0_1_0 ++ (ob0_2 :: (ownB hp0_2_0 ++ (ownB hp0_3 ++ (ownB hp0_4 ++ L))))))), b < w532.heap.size from (fun i h => cx546.lt i ((List.mem_cons.1 h).elim (fun e => e ▸ (.tail _ (List.mem_append_right _ (.tail _ (.head _))))) (fun h => (List.mem_cons.1 h).elim (fun e => e ▸ (.tail _ (List.mem_append_right _ (.tail _ (.tail _ (.head _)))))) (fun h => (List.mem_append.1 h).elim (fun h => (.tail _ (List.mem_append_right _ (.tail _ (.tail _ (.tail _ (List.mem_append_left _ h))))))) (fun h => (List.mem_cons.1 h).elim (fun e => e ▸ (.head _)) (fun h => (List.mem_append.1 h).elim (fun h => (.tail _ (List.mem_append_left _ h))) (fun h => (.tail _ (List.mem_append_right _ (.tail _ (.tail _ (.tail _ (List.mem_append_right _ h)))))))))))))), cx546.g⟩)))
 replace h := (ifN hb382).symm.trans h
 refine wp_seq ?_
 refine reg ?_
 refine s1 pg381.z (okEq s380 cst) rfl fun a564 p565 s566 => ?_
 refine s1 p565.z (okAs s566) rfl fun a567 p568 s569 => ?_
 refine rN (thenN ?_)
 refine cnd s569 (fun hb570 => ?_) (fun hb570 => ?_)
 ·replace h := (ifP hb570).symm.trans h
  refine wp_seq ?_
  have q571 := qhp0_0.mono (g14.tA (Nat.le_of_eq e15.symm))
  have q572 := qhp0_1_0.t0 (g14.tA (Nat.le_of_eq e15.symm)) g14
  have q573 := qhp0_2_0.t0 (g14.tA (Nat.le_of_eq e15.symm)) g14
  have q574 := qhp0_3.t0 (g14.tA (Nat.le_of_eq e15.symm)) g14
  have q575 := qhp0_4.t0 (g14.tA (Nat.le_of_eq e15.symm)) g14
  obtain ⟨t603, ht604, h⟩ := Option.bind_eq_some_iff.1 h
  have s641 := p568.o (p565.o (pg381.o (pg179.o (pg37.o s0_2 rfl) rfl) rfl) rfl) rfl
  have s642 := p568.o (p565.o (pg381.o (pg179.o s34 rfl) rfl) rfl) rfl
  have s643 := p568.o (p565.o (pg381.o (pg179.o s35 rfl) rfl) rfl) rfl
  have m644 := mob0.g0 g14
  have m645 := mob0_1.g0 g14
  have m646 := mob0_2.g0 g14
  refine regJ (fun a' w' => ∃ h610 h611, Z Try.f37.ntmps a' ∧ a'.eval (.tmp 2) = ptr bx2 (x2.toNat * 17) ∧ a'.eval (.tmp 4) = ptr b11 0 ∧ a'.eval (.tmp 6) = .bool false ∧ a'.eval (.tmp 8) = .int .i64 t603.1 ∧ a'.eval (.tmp 9) = h610 ∧ Bk w' ob0 (Tmicro_machine.C ({ x0 with a := default, t := default }) hp0_0 (ptr ob0_1 0) (ptr ob0_2 0) hp0_3 hp0_4) 68 ∧ Bk w' ob0_1 (Tcell_Arena.C t603.2.2 h611) 72 ∧ Bk w' ob0_2 (Tpermit_Table.C x0.t hp0_2_0) 78 ∧ Bk w' b11 (TIns.C x1) 40 ∧ ErG 36 0 (ownB h611 ++ (b11 :: (ob0 :: (ob0_1 :: (ob0_2 :: (ownB hp0_2_0 ++ (ownB hp0_3 ++ (ownB hp0_4 ++ L)))))))) w' h610 t603.2.1 ∧ OwnS (KInt .i64) 2 (ownB h611 ++ (b11 :: (ob0 :: (ob0_1 :: (ob0_2 :: (ownB hp0_2_0 ++ (ownB hp0_3 ++ (ownB hp0_4 ++ L)))))))) w' h611 t603.2.2.l ∧ OwnS KTPark 59 (ownB h611 ++ (b11 :: (ob0 :: (ob0_1 :: (ob0_2 :: (ownB hp0_2_0 ++ (ownB hp0_3 ++ (ownB hp0_4 ++ L)))))))) w' hp0_2_0 x0.t.l ∧ OwnS KTFrame 66 (ownB h611 ++ (b11 :: (ob0 :: (ob0_1 :: (ob0_2 :: (ownB hp0_2_0 ++ (ownB hp0_3 ++ (ownB hp0_4 ++ L)))))))) w' hp0_3 x0.l ∧ OwnS KTNote 80 (ownB h611 ++ (b11 :: (ob0 :: (ob0_1 :: (ob0_2 :: (ownB hp0_2_0 ++ (ownB hp0_3 ++ (ownB hp0_4 ++ L)))))))) w' hp0_4 x0.notes ∧ Cx (ob0 :: (ob0_1 :: (ownB hp0_1_0 ++ (ob0_2 :: (ownB hp0_2_0 ++ (ownB hp0_3 ++ (ownB hp0_4 ++ []))))))) w (ownB h611 ++ (b11 :: (ob0 :: (ob0_1 :: (ob0_2 :: (ownB hp0_2_0 ++ (ownB hp0_3 ++ (ownB hp0_4 ++ L)))))))) w' ∧ Tr (b11 :: (ob0 :: (ob0_1 :: (ownB hp0_1_0 ++ (ob0_2 :: (ownB hp0_2_0 ++ (ownB hp0_3 ++ (ownB hp0_4 ++ L)))))))) w10 (ownB h611 ++ (b11 :: (ob0 :: (ob0_1 :: (ob0_2 :: (ownB hp0_2_0 ++ (ownB hp0_3 ++ (ownB hp0_4 ++ L)))))))) w' ∧ (∀ x ∈ ownB h611, x ∉ L) ∧ (∀ x ∈ ownB h611, x ∈ (ob0 :: (ob0_1 :: (ownB hp0_1_0 ++ (ob0_2 :: (ownB hp0_2_0 ++ (ownB hp0_3 ++ (ownB hp0_4 ++ []))))))) ∨ w.heap.size ≤ x) ∧ ob0 ∉ ownB h611 ∧ ob0_1 ∉ ownB h611 ∧ ob0_2 ∉ ownB h611 ∧ b11 ∉ ownB h611 ∧ (∀ x ∈ ownB hp0_2_0, x ∉ ownB h611) ∧ (∀ x ∈ ownB hp0_3, x ∉ ownB h611) ∧ (∀ x ∈ ownB hp0_4, x ∉ ownB h611)) ?_ ?_
  ·refine regH (n := 13) [(3, fun w' => Cl w' ob0 1 [ptr ob0_1 0]), (5, fun w' => Cl w' b11 4 [.int .i64 x1.n])] mixed rfl ?_
   have g647 := G.drew w10
   have cx648 := cx16.ca g647
   have s649 := p568.o (p565.o (pg381.o (pg179.o (pg37.o s0_0 rfl) rfl) rfl) rfl) rfl
   refine hTakeW (i := 0) rfl (by kernel_rfl) (by kernel_rfl) (by kernel_rfl) nrm (cond := fun _ => True) (.inl fun _ => trivial) p568.z (wN rfl) (fun _ _ => okMv s649) trivial rfl fun a650 p651 sp651 => ?_
   refine hTakeW (i := 1) rfl (by kernel_rfl) (by kernel_rfl) (by kernel_rfl) nrm (cond := fun _ => True) (.inl fun _ => trivial) p651.z (wN rfl) (fun _ _ => okNil sp651) trivial rfl fun a652 p653 sp653 => ?_
   refine hTakeW (i := 2) rfl (by kernel_rfl) (by kernel_rfl) (by kernel_rfl) nrm (cond := fun _ => True) (.inl fun _ => trivial) p653.z (wN rfl) (fun _ _ => okFA (o' := 1) fo68_1 sp653 rfl) trivial rfl fun a654 p655 sp655 => ?_
   have m656 := m644.g0 g647
   refine hTakeW (i := 3) rfl (by kernel_rfl) (by kernel_rfl) (by kernel_rfl) nrm (.inr (.head _)) p655.z (wN rfl) (fun _ h => okLd (j := 0) na24 sp655 h rfl rfl) (m656.clp rfl) rfl fun a657 p658 sp658 => ?_
   have s659 := p658.o (p655.o (p653.o (p651.o s642 rfl) rfl) rfl) rfl
   refine hTakeW (i := 4) rfl (by kernel_rfl) (by kernel_rfl) (by kernel_rfl) nrm (cond := fun _ => True) (.inl fun _ => trivial) p658.z (wN rfl) (fun _ _ => okFA (o' := 4) fo40_4 s659 rfl) trivial rfl fun a660 p661 sp661 => ?_
   have m662 := m13.g0 g647
   refine hTakeW (i := 5) rfl (by kernel_rfl) (by kernel_rfl) (by kernel_rfl) nrm (.inr (.tail _ (.head _))) p661.z (wN rfl) (fun _ h => okLd (j := 0) na2 sp661 h rfl rfl) (m662.clp rfl) rfl fun a663 p664 sp664 => ?_
   refine hTakeW (i := 6) rfl (by kernel_rfl) (by kernel_rfl) (by kernel_rfl) nrm (cond := fun _ => True) (.inl fun _ => trivial) p664.z (wN rfl) (fun _ _ => okMax sp664 cst) trivial rfl fun a665 p666 sp666 => ?_
   have s667 := p666.o (p664.o (p661.o sp658 rfl) rfl) rfl
   have m668 := m645.g0 g647
   have q669 := q572.t0 g647.t0 g647
   have m670 := m646.g0 g647
   refine hOne (i := 7) (by kernel_rfl) rfl (oCall p666.z Try.call20 (ag2 s667 sp666) (c20 (b11 :: (ob0 :: (ob0_2 :: (ownB hp0_2_0 ++ (ownB hp0_3 ++ (ownB hp0_4 ++ L)))))) w10.drew x0.a ob0_1 hp0_1_0 (if x1.n < 0 then 0 else x1.n) (fun i h => cx648.lt i ((List.mem_cons.1 h).elim (fun e => e ▸ (.tail _ (.tail _ (.head _)))) (fun h => (List.mem_append.1 h).elim (fun h => (.tail _ (.tail _ (.tail _ (List.mem_append_left _ h))))) (fun h => (List.mem_cons.1 h).elim (fun e => e ▸ (.head _)) (fun h => (List.mem_cons.1 h).elim (fun e => e ▸ (.tail _ (.head _))) (fun h => (.tail _ (.tail _ (.tail _ (List.mem_append_right _ h)))))))))) (sepC (show ∀ x ∈ [ob0_1], x ∉ (ownB hp0_1_0 ++ (b11 :: (ob0 :: (ob0_2 :: (ownB hp0_2_0 ++ (ownB hp0_3 ++ (ownB hp0_4 ++ L))))))) from (in1 (na (D.bo (i := 1) (j := 2) rfl rfl rfl) (nc (mob0_1.ne e15) (nc (D.bb (i := 0) (j := 1) rfl rfl rfl).symm (nc (D.bb (i := 1) (j := 3) rfl rfl rfl) (na (D.bo (i := 1) (j := 4) rfl rfl rfl) (na (D.bo (i := 1) (j := 5) rfl rfl rfl) (na (D.bo (i := 1) (j := 6) rfl rfl rfl) (D.bl (i := 1) rfl)))))))))) (sepC (show ∀ x ∈ ownB hp0_1_0, x ∉ (b11 :: (ob0 :: (ob0_2 :: (ownB hp0_2_0 ++ (ownB hp0_3 ++ (ownB hp0_4 ++ L)))))) from (fun x hx => (nc (nbo (qhp0_1_0.nb e15) hx) (nc (nbo (D.bo (i := 0) (j := 2) rfl rfl rfl) hx) (nc (nbo (D.ob (i := 2) (j := 3) rfl rfl rfl) hx) (na ((D.dj (i := 2) (j := 4) rfl rfl rfl) x hx) (na ((D.dj (i := 2) (j := 5) rfl rfl rfl) x hx) (na ((D.dj (i := 2) (j := 6) rfl rfl rfl) x hx) ((D.dl (i := 2) rfl) x hx))))))))) sepN)) m668 (q669.sub (fun i h => (List.mem_cons.1 h).elim (fun e => e ▸ (.tail _ (.tail _ (.head _)))) (fun h => (List.mem_append.1 h).elim (fun h => (.tail _ (.tail _ (.tail _ (List.mem_append_left _ h))))) (fun h => (List.mem_cons.1 h).elim (fun e => e ▸ (.head _)) (fun h => (List.mem_cons.1 h).elim (fun e => e ▸ (.tail _ (.head _))) (fun h => (.tail _ (.tail _ (.tail _ (List.mem_append_right _ h)))))))))) _ ht604) rfl fun v674 a671 w672 hp675 p673 sp673 => ?_)
   obtain ⟨h676, h677, rfl, q678, m679, q680, D681, f684, lt682, g683⟩ := hp675
   have hs685 : ∀ i ∈ (ob0_1 :: (ownB hp0_1_0 ++ [])), i ∈ (ob0 :: (ob0_1 :: (ownB hp0_1_0 ++ (ob0_2 :: (ownB hp0_2_0 ++ (ownB hp0_3 ++ (ownB hp0_4 ++ []))))))) ∨ w.heap.size ≤ i := (memC (.inl (.tail _ (.head _))) (memA (fun _ h => .inl (.tail _ (.tail _ (List.mem_append_left _ h)))) memN))
   have hs686 : ∀ i ∈ (ob0_1 :: (ownB hp0_1_0 ++ [])), i ∈ (b11 :: (ob0 :: (ob0_1 :: (ownB hp0_1_0 ++ (ob0_2 :: (ownB hp0_2_0 ++ (ownB hp0_3 ++ (ownB hp0_4 ++ L)))))))) := (memC (.tail _ (.tail _ (.head _))) (memA (fun _ h => (.tail _ (.tail _ (.tail _ (List.mem_append_left _ h))))) memN))
   have t687 : Tr (b11 :: (ob0 :: (ob0_1 :: (ownB hp0_1_0 ++ (ob0_2 :: (ownB hp0_2_0 ++ (ownB hp0_3 ++ (ownB hp0_4 ++ L)))))))) w10.drew (ob0_1 :: (ownB h677 ++ (b11 :: (ob0 :: (ob0_2 :: (ownB hp0_2_0 ++ (ownB hp0_3 ++ (ownB hp0_4 ++ L)))))))) w672 := G.tC g683 hs686 (memC (.inl (.tail _ (.tail _ (.head _)))) (memA (frL f684 hs686) (fun i h => .inl ((List.mem_cons.1 h).elim (fun e => e ▸ (.head _)) (fun h => (List.mem_cons.1 h).elim (fun e => e ▸ (.tail _ (.head _))) (fun h => (.tail _ (.tail _ (.tail _ (List.mem_append_right _ h))))))))))
   have cx688 := cx648.gs g683 hs685 lt682
   refine ⟨⟨.inl (by kernel_rfl), .inl (by kernel_rfl), trivial⟩, ?_⟩
   refine hTakeW (i := 8) rfl (by kernel_rfl) (by kernel_rfl) (by kernel_rfl) nrm (cond := fun _ => True) (.inl fun _ => trivial) p673.z (wN rfl) (fun _ _ => okMv sp673) trivial rfl fun a689 p690 sp690 => ?_
   refine hTakeW (i := 9) rfl (by kernel_rfl) (by kernel_rfl) (by kernel_rfl) nrm (cond := fun _ => True) (.inl fun _ => trivial) p690.z (wN rfl) (fun _ _ => okExt (vs := [_, _]) sp690 rfl) trivial rfl fun a691 p692 sp692 => ?_
   have s693 := p692.o sp690 rfl
   refine hTakeW (i := 10) rfl (by kernel_rfl) (by kernel_rfl) (by kernel_rfl) nrm (cond := fun _ => True) (.inl fun _ => trivial) p692.z (wN rfl) (fun _ _ => okExt (vs := [_, _]) s693 rfl) trivial rfl fun a694 p695 sp695 => ?_
   have s696 := p695.o sp692 rfl
   refine hTakeW (i := 11) rfl (by kernel_rfl) (by kernel_rfl) (by kernel_rfl) nrm (cond := fun _ => True) (.inl fun _ => trivial) p695.z (wN rfl) (fun _ _ => okAs s696) trivial rfl fun a697 p698 sp698 => ?_
   have s699 := p698.o sp695 rfl
   refine hTakeW (i := 12) rfl (by kernel_rfl) (by kernel_rfl) (by kernel_rfl) nrm (cond := fun _ => True) (.inl fun _ => trivial) p698.z (wN rfl) (fun _ _ => okAs s699) trivial rfl fun a700 p701 sp701 => ?_
   have q702 := (q573.t0 g647.t0 g647).tr t687 g683 (fun x hx => (nc (nbo (D.bo (i := 1) (j := 4) rfl rfl rfl) hx) (na ((djs (D.dj (i := 2) (j := 4) rfl rfl rfl)) x hx) not_nil)))
   have q703 := (q574.t0 g647.t0 g647).tr t687 g683 (fun x hx => (nc (nbo (D.bo (i := 1) (j := 5) rfl rfl rfl) hx) (na ((djs (D.dj (i := 2) (j := 5) rfl rfl rfl)) x hx) not_nil)))
   have q704 := (q575.t0 g647.t0 g647).tr t687 g683 (fun x hx => (nc (nbo (D.bo (i := 1) (j := 6) rfl rfl rfl) hx) (na ((djs (D.dj (i := 2) (j := 6) rfl rfl rfl)) x hx) not_nil)))
   have s705 := p701.o (p698.o (p695.o (p692.o (p690.o (p673.o (p666.o (p664.o (p661.o (p658.o (p655.o (p653.o (p651.o s641 rfl) rfl) rfl) rfl) rfl) rfl) rfl) rfl) rfl) rfl) rfl) rfl) rfl
   have s706 := p701.o (p698.o (p695.o (p692.o (p690.o (p673.o (p666.o (p664.o (p661.o s659 rfl) rfl) rfl) rfl) rfl) rfl) rfl) rfl) rfl
   have s707 := p701.o (p698.o (p695.o (p692.o (p690.o (p673.o (p666.o (p664.o (p661.o (p658.o (p655.o (p653.o (p651.o s643 rfl) rfl) rfl) rfl) rfl) rfl) rfl) rfl) rfl) rfl) rfl) rfl) rfl
   have s708 := p701.o sp698 rfl
   have m709 := m656.g g683 (nc (D.bb (i := 0) (j := 1) rfl rfl rfl) (na (D.bo (i := 0) (j := 2) rfl rfl rfl) not_nil))
   have m710 := m670.g g683 (nc (D.bb (i := 1) (j := 3) rfl rfl rfl).symm (na (D.ob (i := 2) (j := 3) rfl rfl rfl) not_nil))
   have m711 := m662.g g683 (nc (mob0_1.ne e15).symm (na (qhp0_1_0.nb e15) not_nil))
   exact hDone (by kernel_rfl) ⟨rfl, h676, h677, p701.z, s705, s706, s707, s708, sp701, m709, m679, m710, m711, (q678.mono ((Tr.refl _ _).sub (fun i h => (List.mem_append.1 h).elim (fun h => (.tail _ (List.mem_append_left _ h))) (fun h => (List.mem_cons.1 h).elim (fun e => e ▸ (.tail _ (List.mem_append_right _ (.head _)))) (fun h => (List.mem_cons.1 h).elim (fun e => e ▸ (.tail _ (List.mem_append_right _ (.tail _ (.head _))))) (fun h => (List.mem_cons.1 h).elim (fun e => e ▸ (.head _)) (fun h => (.tail _ (List.mem_append_right _ (.tail _ (.tail _ h))))))))))), (q680.sub (fun i h => (List.mem_append.1 h).elim (fun h => (.tail _ (List.mem_append_left _ h))) (fun h => (List.mem_cons.1 h).elim (fun e => e ▸ (.tail _ (List.mem_append_right _ (.head _)))) (fun h => (List.mem_cons.1 h).elim (fun e => e ▸ (.tail _ (List.mem_append_right _ (.tail _ (.head _))))) (fun h => (List.mem_cons.1 h).elim (fun e => e ▸ (.head _)) (fun h => (.tail _ (List.mem_append_right _ (.tail _ (.tail _ h)))))))))), (q702.sub (fun i h => (List.mem_append.1 h).elim (fun h => (.tail _ (List.mem_append_left _ h))) (fun h => (List.mem_cons.1 h).elim (fun e => e ▸ (.tail _ (List.mem_append_right _ (.head _)))) (fun h => (List.mem_cons.1 h).elim (fun e => e ▸ (.tail _ (List.mem_append_right _ (.tail _ (.head _))))) (fun h => (List.mem_cons.1 h).elim (fun e => e ▸ (.head _)) (fun h => (.tail _ (List.mem_append_right _ (.tail _ (.tail _ h)))))))))), (q703.sub (fun i h => (List.mem_append.1 h).elim (fun h => (.tail _ (List.mem_append_left _ h))) (fun h => (List.mem_cons.1 h).elim (fun e => e ▸ (.tail _ (List.mem_append_right _ (.head _)))) (fun h => (List.mem_cons.1 h).elim (fun e => e ▸ (.tail _ (List.mem_append_right _ (.tail _ (.head _))))) (fun h => (List.mem_cons.1 h).elim (fun e => e ▸ (.head _)) (fun h => (.tail _ (List.mem_append_right _ (.tail _ (.tail _ h)))))))))), (q704.sub (fun i h => (List.mem_append.1 h).elim (fun h => (.tail _ (List.mem_append_left _ h))) (fun h => (List.mem_cons.1 h).elim (fun e => e ▸ (.tail _ (List.mem_append_right _ (.head _)))) (fun h => (List.mem_cons.1 h).elim (fun e => e ▸ (.tail _ (List.mem_append_right _ (.tail _ (.head _))))) (fun h => (List.mem_cons.1 h).elim (fun e => e ▸ (.head _)) (fun h => (.tail _ (List.mem_append_right _ (.tail _ (.tail _ h)))))))))), (cx688.sub (fun i h => (List.mem_append.1 h).elim (fun h => (.tail _ (List.mem_append_left _ h))) (fun h => (List.mem_cons.1 h).elim (fun e => e ▸ (.tail _ (List.mem_append_right _ (.head _)))) (fun h => (List.mem_cons.1 h).elim (fun e => e ▸ (.tail _ (List.mem_append_right _ (.tail _ (.head _))))) (fun h => (List.mem_cons.1 h).elim (fun e => e ▸ (.head _)) (fun h => (.tail _ (List.mem_append_right _ (.tail _ (.tail _ h)))))))))), ((g647.t0.trans t687).sub (fun i h => (List.mem_append.1 h).elim (fun h => (.tail _ (List.mem_append_left _ h))) (fun h => (List.mem_cons.1 h).elim (fun e => e ▸ (.tail _ (List.mem_append_right _ (.head _)))) (fun h => (List.mem_cons.1 h).elim (fun e => e ▸ (.tail _ (List.mem_append_right _ (.tail _ (.head _))))) (fun h => (List.mem_cons.1 h).elim (fun e => e ▸ (.head _)) (fun h => (.tail _ (List.mem_append_right _ (.tail _ (.tail _ h)))))))))), (fun x hx hl => D681.dl (i := 1) rfl x hx (.tail _ (.tail _ (.tail _ (List.mem_append_right _ (List.mem_append_right _ (List.mem_append_right _ hl))))))), (frC f684 hs685 cx648.g.sz), (fun hb => D681.dl (i := 1) rfl _ hb (.tail _ (.head _))), (D681.bo (i := 0) (j := 1) rfl rfl rfl), (fun hb => D681.dl (i := 1) rfl _ hb (.tail _ (.tail _ (.head _)))), (fun hb => D681.dl (i := 1) rfl _ hb (.head _)), (djs (fun x hx hk => D681.dl (i := 1) rfl x hx (.tail _ (.tail _ (.tail _ (List.mem_append_left _ hk)))))), (djs (fun x hx hk => D681.dl (i := 1) rfl x hx (.tail _ (.tail _ (.tail _ (List.mem_append_right _ (List.mem_append_left _ hk))))))), (djs (fun x hx hk => D681.dl (i := 1) rfl x hx (.tail _ (.tail _ (.tail _ (List.mem_append_right _ (List.mem_append_right _ (List.mem_append_left _ hk))))))))⟩
  rintro a712 w713 ⟨h715, h716, z714, s717, s718, s719, s720, s721, m722, m723, m724, m725, q726, q727, q728, q729, q730, cx731, t732, n733, n734, n735, n736, n737, n738, n739, n740, n741⟩
  refine thenN ?_
  refine wp_seq ?_
  refine regT 6 mixed (by kernel_rfl) ?_
  have g742 := G.drew w713
  have cx743 := cx731.ca g742
  refine t1 z714 (okMv s717) rfl fun a744 p745 s746 => ?_
  have s747 := p745.o s718 rfl
  refine t1 p745.z (okFA (o' := 1) fo40_1 s747 rfl) rfl fun a748 p749 s750 => ?_
  have m751 := m725.g0 g742
  refine t1 p749.z (okLd (j := 1) na3 s750 (m751.cl) rfl rfl) rfl fun a752 p753 s754 => ?_
  have s755 := p753.o (p749.o s746 rfl) rfl
  refine t1 p753.z (okNil s755) rfl fun a756 p757 s758 => ?_
  refine t1 p757.z (okFA (o' := x2.toNat * 17 + 1) fo66_1 s758 rfl) rfl fun a759 p760 s761 => ?_
  have s762 := p760.o (p757.o s754 rfl) rfl
  by_cases hi763 : 0 ≤ x1.a ∧ x1.a < 16
  case neg => rw [if_neg hi763] at h; cases h
  replace h := (if_pos hi763).symm.trans h
  refine t1 p760.z (okIA Try.underlying64 Try.sizeOf2 s761 s762 hi763) rfl fun a764 p765 s766 => ?_
  refine tN ?_
  have q767 := q729.t0 g742.t0 g742
  obtain ⟨y768, hy769, h⟩ := Option.bind_eq_some_iff.1 h
  obtain ⟨b770, cs771, r772, e773, nb774, k775⟩ := q767.at_ hy769
  obtain rfl : bx2 = b770 := own1 eb2 nb774
  obtain rfl := r772
  have m779 := m722.g0 g742
  have m780 := m723.g0 g742
  have m781 := m724.g0 g742
  refine lS (oStoE (K := KTFrame) (e' := ({ y768 with r := y768.r.set x1.a 0 })) (vs := [.int .i64 0]) (j := 1 + x1.a.toNat) p765.z s766 cst q767 hy769 eb2 e773 (fun _ h => (List.mem_append_right _ (.tail _ (.tail _ (.tail _ (.tail _ (List.mem_append_right _ (List.mem_append_left _ h)))))))) (Nat.add_assoc _ _ _).symm Try.sizeOf2 rfl one1 rfl (ble (by have := hi763; show 1 + _ + 1 ≤ 17; omega)) (TFrame.C_r_set _ hi763 _) rfl fun w776 q777 g778 => ?_)
  have cx782 := cx743.cs g778 (fun _ h => .inl (.tail _ (.tail _ (List.mem_append_right _ (.tail _ (List.mem_append_right _ (List.mem_append_left _ h)))))))
  refine rN (thenN ?_)
  refine wp_seq ?_
  refine reg ?_
  have s783 := p765.o (p760.o (p757.o (p753.o (p749.o (p745.o s721 rfl) rfl) rfl) rfl) rfl) rfl
  refine s1 p765.z (okMv s783) rfl fun a784 p785 s786 => ?_
  have q787 := q726.mono (g742.t0.trans (g778.t (fun _ h => (List.mem_append_right _ (.tail _ (.tail _ (.tail _ (.tail _ (List.mem_append_right _ (List.mem_append_left _ h))))))))))
  refine s1 p785.z (okEEqN ef33 s786 q787 _) rfl fun a788 p789 s790 => ?_
  refine rN (thenN ?_)
  have s791 := p789.o (p785.o (p765.o (p760.o (p757.o (p753.o (p749.o s747 rfl) rfl) rfl) rfl) rfl) rfl) rfl
  have pg792 : Pg _ [117, 118, 119, 120, 121, 122, 123, 124] _ _ := (((((((((Pg.refl z714).st p745 rfl).st p749 rfl).st p753 rfl).st p757 rfl).st p760 rfl).st p765 rfl).st p785 rfl).st p789 rfl)
  refine cnd s790 (fun hb793 => ?_) (fun hb793 => ?_)
  ·replace h := (ifP hb793).symm.trans h
   refine regT 7 mixed (by kernel_rfl) ?_
   have g794 := G.drew w776
   have cx795 := cx782.ca g794
   have s796 := pg792.o s717 rfl
   refine t1 pg792.z (okMv s796) rfl fun a797 p798 s799 => ?_
   have s800 := p798.o s791 rfl
   refine t1 p798.z (okFA (o' := 1) fo40_1 s800 rfl) rfl fun a801 p802 s803 => ?_
   have m804 := (m751.g g778 (qhp0_3.nb e15)).g0 g794
   refine t1 p802.z (okLd (j := 1) na3 s803 (m804.cl) rfl rfl) rfl fun a805 p806 s807 => ?_
   have s808 := p806.o (p802.o (p798.o (pg792.o s720 rfl) rfl) rfl) rfl
   refine t1 p806.z (okMv s808) rfl fun a809 p810 s811 => ?_
   have s812 := p810.o (p806.o (p802.o s799 rfl) rfl) rfl
   refine t1 p810.z (okNil s812) rfl fun a813 p814 s815 => ?_
   refine t1 p814.z (okFA (o' := x2.toNat * 17 + 1) fo66_1 s815 rfl) rfl fun a816 p817 s818 => ?_
   have s819 := p817.o (p814.o (p810.o s807 rfl) rfl) rfl
   by_cases hi820 : 0 ≤ x1.a ∧ x1.a < 16
   case neg => rw [if_neg hi820] at h; cases h
   replace h := (if_pos hi820).symm.trans h
   refine t1 p817.z (okIA Try.underlying64 Try.sizeOf2 s818 s819 hi820) rfl fun a821 p822 s823 => ?_
   refine tN ?_
   have s824 := p822.o (p817.o (p814.o s811 rfl) rfl) rfl
   have q825 := q777.t0 g794.t0 g794
   obtain ⟨b826, cs827, r828, e829, nb830, k831⟩ := q825.at_ (ix_set hy769)
   obtain rfl : bx2 = b826 := own1 eb2 nb830
   obtain rfl := r828
   have m835 := (m779.g g778 (D.bo (i := 0) (j := 5) rfl rfl rfl)).g0 g794
   have m836 := (m780.g g778 (D.bo (i := 1) (j := 5) rfl rfl rfl)).g0 g794
   have m837 := (m781.g g778 (D.bo (i := 3) (j := 5) rfl rfl rfl)).g0 g794
   refine lS (oStoE (K := KTFrame) (e' := ({ y768 with r := (y768.r.set x1.a 0).set x1.a t603.1 })) (vs := [.int .i64 t603.1]) (j := 1 + x1.a.toNat) p822.z s823 s824 q825 (ix_set hy769) eb2 e829 (fun _ h => (List.mem_append_right _ (.tail _ (.tail _ (.tail _ (.tail _ (List.mem_append_right _ (List.mem_append_left _ h)))))))) (Nat.add_assoc _ _ _).symm Try.sizeOf2 rfl one1 rfl (ble (by have := hi820; show 1 + _ + 1 ≤ 17; omega)) (TFrame.C_r_set _ hi820 _) rfl fun w832 q833 g834 => ?_)
   have cx838 := cx795.cs g834 (fun _ h => .inl (.tail _ (.tail _ (List.mem_append_right _ (.tail _ (List.mem_append_right _ (List.mem_append_left _ h)))))))
   refine rN (blkN (thenN ?_))
   refine wp_seq ?_
   refine reg ?_
   refine s1 p822.z (okAs cst) rfl fun a839 p840 s841 => ?_
   refine rN (thenN ?_)
   obtain rfl := Option.some.inj h
   have m842 := m835.g g834 (D.bo (i := 0) (j := 5) rfl rfl rfl)
   have q843 := q571.mono ((((t732.trans g742.t0).trans (g778.t (fun _ h => (List.mem_append_right _ (.tail _ (.tail _ (.tail _ (.tail _ (List.mem_append_right _ (List.mem_append_left _ h)))))))))).trans g794.t0).trans (g834.t (fun _ h => (List.mem_append_right _ (.tail _ (.tail _ (.tail _ (.tail _ (List.mem_append_right _ (List.mem_append_left _ h))))))))))
   have m844 := m836.g g834 (D.bo (i := 1) (j := 5) rfl rfl rfl)
   have q845 := (((q727.t0 g742.t0 g742).tr (g778.t (fun _ h => (List.mem_append_right _ (.tail _ (.tail _ (.tail _ (.tail _ (List.mem_append_right _ (List.mem_append_left _ h))))))))) g778 (djs n740)).t0 g794.t0 g794).tr (g834.t (fun _ h => (List.mem_append_right _ (.tail _ (.tail _ (.tail _ (.tail _ (List.mem_append_right _ (List.mem_append_left _ h))))))))) g834 (djs n740)
   have m846 := m837.g g834 (D.bo (i := 3) (j := 5) rfl rfl rfl)
   have q847 := (((q728.t0 g742.t0 g742).tr (g778.t (fun _ h => (List.mem_append_right _ (.tail _ (.tail _ (.tail _ (.tail _ (List.mem_append_right _ (List.mem_append_left _ h))))))))) g778 (D.dj (i := 4) (j := 5) rfl rfl rfl)).t0 g794.t0 g794).tr (g834.t (fun _ h => (List.mem_append_right _ (.tail _ (.tail _ (.tail _ (.tail _ (List.mem_append_right _ (List.mem_append_left _ h))))))))) g834 (D.dj (i := 4) (j := 5) rfl rfl rfl)
   have q848 := (((q730.t0 g742.t0 g742).tr (g778.t (fun _ h => (List.mem_append_right _ (.tail _ (.tail _ (.tail _ (.tail _ (List.mem_append_right _ (List.mem_append_left _ h))))))))) g778 (djs (D.dj (i := 5) (j := 6) rfl rfl rfl))).t0 g794.t0 g794).tr (g834.t (fun _ h => (List.mem_append_right _ (.tail _ (.tail _ (.tail _ (.tail _ (List.mem_append_right _ (List.mem_append_left _ h))))))))) g834 (djs (D.dj (i := 5) (j := 6) rfl rfl rfl))
   exact wp_ret (ret1 p840.z Try.results37 (rvT s841) ⟨_, rfl, h716, hp0_4, rfl, m842, (q843.mono ((Tr.refl _ _).sub (fun i h => (List.mem_cons.1 h).elim (fun e => e ▸ (List.mem_append_right _ (.tail _ (.head _)))) (fun h => (List.mem_cons.1 h).elim (fun e => e ▸ (List.mem_append_right _ (.tail _ (.tail _ (.head _))))) (fun h => (List.mem_append.1 h).elim (fun h => (List.mem_append_left _ h)) (fun h => (List.mem_append_right _ (.tail _ (.tail _ (.tail _ h)))))))))), m844, (q845.sub (fun i h => (List.mem_cons.1 h).elim (fun e => e ▸ (List.mem_append_right _ (.tail _ (.head _)))) (fun h => (List.mem_cons.1 h).elim (fun e => e ▸ (List.mem_append_right _ (.tail _ (.tail _ (.head _))))) (fun h => (List.mem_append.1 h).elim (fun h => (List.mem_append_left _ h)) (fun h => (List.mem_append_right _ (.tail _ (.tail _ (.tail _ h))))))))), m846, (q847.sub (fun i h => (List.mem_cons.1 h).elim (fun e => e ▸ (List.mem_append_right _ (.tail _ (.head _)))) (fun h => (List.mem_cons.1 h).elim (fun e => e ▸ (List.mem_append_right _ (.tail _ (.tail _ (.head _))))) (fun h => (List.mem_append.1 h).elim (fun h => (List.mem_append_left _ h)) (fun h => (List.mem_append_right _ (.tail _ (.tail _ (.tail _ h))))))))), (q833.sub (fun i h => (List.mem_cons.1 h).elim (fun e => e ▸ (List.mem_append_right _ (.tail _ (.head _)))) (fun h => (List.mem_cons.1 h).elim (fun e => e ▸ (List.mem_append_right _ (.tail _ (.tail _ (.head _))))) (fun h => (List.mem_append.1 h).elim (fun h => (List.mem_append_left _ h)) (fun h => (List.mem_append_right _ (.tail _ (.tail _ (.tail _ h))))))))), (q848.sub (fun i h => (List.mem_cons.1 h).elim (fun e => e ▸ (List.mem_append_right _ (.tail _ (.head _)))) (fun h => (List.mem_cons.1 h).elim (fun e => e ▸ (List.mem_append_right _ (.tail _ (.tail _ (.head _))))) (fun h => (List.mem_append.1 h).elim (fun h => (List.mem_append_left _ h)) (fun h => (List.mem_append_right _ (.tail _ (.tail _ (.tail _ h))))))))), (sepC (show ∀ x ∈ [ob0], x ∉ (ob0_1 :: (ownB h716 ++ (ob0_2 :: (ownB hp0_2_0 ++ (ownB hp0_3 ++ (ownB hp0_4 ++ L)))))) from (in1 (nc (D.bb (i := 0) (j := 1) rfl rfl rfl) (na n735 (nc (D.bb (i := 0) (j := 3) rfl rfl rfl) (na (D.bo (i := 0) (j := 4) rfl rfl rfl) (na (D.bo (i := 0) (j := 5) rfl rfl rfl) (na (D.bo (i := 0) (j := 6) rfl rfl rfl) (D.bl (i := 0) rfl))))))))) (sepC (show ∀ x ∈ [ob0_1], x ∉ (ownB h716 ++ (ob0_2 :: (ownB hp0_2_0 ++ (ownB hp0_3 ++ (ownB hp0_4 ++ L))))) from (in1 (na n736 (nc (D.bb (i := 1) (j := 3) rfl rfl rfl) (na (D.bo (i := 1) (j := 4) rfl rfl rfl) (na (D.bo (i := 1) (j := 5) rfl rfl rfl) (na (D.bo (i := 1) (j := 6) rfl rfl rfl) (D.bl (i := 1) rfl)))))))) (sepC (show ∀ x ∈ ownB h716, x ∉ (ob0_2 :: (ownB hp0_2_0 ++ (ownB hp0_3 ++ (ownB hp0_4 ++ L)))) from (fun x hx => (nc (nbo n737 hx) (na ((djs n739) x hx) (na ((djs n740) x hx) (na ((djs n741) x hx) (n733 x hx))))))) (sepC (show ∀ x ∈ [ob0_2], x ∉ (ownB hp0_2_0 ++ (ownB hp0_3 ++ (ownB hp0_4 ++ L))) from (in1 (na (D.bo (i := 3) (j := 4) rfl rfl rfl) (na (D.bo (i := 3) (j := 5) rfl rfl rfl) (na (D.bo (i := 3) (j := 6) rfl rfl rfl) (D.bl (i := 3) rfl)))))) (sepC (show ∀ x ∈ ownB hp0_2_0, x ∉ (ownB hp0_3 ++ (ownB hp0_4 ++ L)) from (fun x hx => (na ((D.dj (i := 4) (j := 5) rfl rfl rfl) x hx) (na ((D.dj (i := 4) (j := 6) rfl rfl rfl) x hx) ((D.dl (i := 4) rfl) x hx))))) (sepC (show ∀ x ∈ ownB hp0_3, x ∉ (ownB hp0_4 ++ L) from (fun x hx => (na ((D.dj (i := 5) (j := 6) rfl rfl rfl) x hx) ((D.dl (i := 5) rfl) x hx)))) (sepC (show ∀ x ∈ ownB hp0_4, x ∉ L from (fun x hx => ((D.dl (i := 6) rfl) x hx))) sepN))))))), n734, (fun _ h => .inl (.tail _ (.tail _ (List.mem_append_right _ (.tail _ (List.mem_append_right _ (List.mem_append_right _ (List.mem_append_left _ h)))))))), (show ∀ b ∈ (ob0 :: (ob0_1 :: (ownB h716 ++ (ob0_2 :: (ownB hp0_2_0 ++ (ownB hp0_3 ++ (ownB hp0_4 ++ L))))))), b < w832.heap.size from (fun i h => cx838.lt i ((List.mem_cons.1 h).elim (fun e => e ▸ (List.mem_append_right _ (.tail _ (.head _)))) (fun h => (List.mem_cons.1 h).elim (fun e => e ▸ (List.mem_append_right _ (.tail _ (.tail _ (.head _))))) (fun h => (List.mem_append.1 h).elim (fun h => (List.mem_append_left _ h)) (fun h => (List.mem_append_right _ (.tail _ (.tail _ (.tail _ h)))))))))), cx838.g⟩)
  replace h := (ifN hb793).symm.trans h
  refine wp_skip (blkN (thenN ?_))
  refine wp_seq ?_
  refine reg ?_
  refine s1 pg792.z (okAs cst) rfl fun a849 p850 s851 => ?_
  refine rN (thenN ?_)
  obtain rfl := Option.some.inj h
  have m852 := m779.g g778 (D.bo (i := 0) (j := 5) rfl rfl rfl)
  have q853 := q571.mono ((t732.trans g742.t0).trans (g778.t (fun _ h => (List.mem_append_right _ (.tail _ (.tail _ (.tail _ (.tail _ (List.mem_append_right _ (List.mem_append_left _ h))))))))))
  have m854 := m780.g g778 (D.bo (i := 1) (j := 5) rfl rfl rfl)
  have q855 := (q727.t0 g742.t0 g742).tr (g778.t (fun _ h => (List.mem_append_right _ (.tail _ (.tail _ (.tail _ (.tail _ (List.mem_append_right _ (List.mem_append_left _ h))))))))) g778 (djs n740)
  have m856 := m781.g g778 (D.bo (i := 3) (j := 5) rfl rfl rfl)
  have q857 := (q728.t0 g742.t0 g742).tr (g778.t (fun _ h => (List.mem_append_right _ (.tail _ (.tail _ (.tail _ (.tail _ (List.mem_append_right _ (List.mem_append_left _ h))))))))) g778 (D.dj (i := 4) (j := 5) rfl rfl rfl)
  have q858 := (q730.t0 g742.t0 g742).tr (g778.t (fun _ h => (List.mem_append_right _ (.tail _ (.tail _ (.tail _ (.tail _ (List.mem_append_right _ (List.mem_append_left _ h))))))))) g778 (djs (D.dj (i := 5) (j := 6) rfl rfl rfl))
  exact wp_ret (ret1 p850.z Try.results37 (rvT s851) ⟨_, rfl, h716, hp0_4, rfl, m852, (q853.mono ((Tr.refl _ _).sub (fun i h => (List.mem_cons.1 h).elim (fun e => e ▸ (List.mem_append_right _ (.tail _ (.head _)))) (fun h => (List.mem_cons.1 h).elim (fun e => e ▸ (List.mem_append_right _ (.tail _ (.tail _ (.head _))))) (fun h => (List.mem_append.1 h).elim (fun h => (List.mem_append_left _ h)) (fun h => (List.mem_append_right _ (.tail _ (.tail _ (.tail _ h)))))))))), m854, (q855.sub (fun i h => (List.mem_cons.1 h).elim (fun e => e ▸ (List.mem_append_right _ (.tail _ (.head _)))) (fun h => (List.mem_cons.1 h).elim (fun e => e ▸ (List.mem_append_right _ (.tail _ (.tail _ (.head _))))) (fun h => (List.mem_append.1 h).elim (fun h => (List.mem_append_left _ h)) (fun h => (List.mem_append_right _ (.tail _ (.tail _ (.tail _ h))))))))), m856, (q857.sub (fun i h => (List.mem_cons.1 h).elim (fun e => e ▸ (List.mem_append_right _ (.tail _ (.head _)))) (fun h => (List.mem_cons.1 h).elim (fun e => e ▸ (List.mem_append_right _ (.tail _ (.tail _ (.head _))))) (fun h => (List.mem_append.1 h).elim (fun h => (List.mem_append_left _ h)) (fun h => (List.mem_append_right _ (.tail _ (.tail _ (.tail _ h))))))))), (q777.sub (fun i h => (List.mem_cons.1 h).elim (fun e => e ▸ (List.mem_append_right _ (.tail _ (.head _)))) (fun h => (List.mem_cons.1 h).elim (fun e => e ▸ (List.mem_append_right _ (.tail _ (.tail _ (.head _))))) (fun h => (List.mem_append.1 h).elim (fun h => (List.mem_append_left _ h)) (fun h => (List.mem_append_right _ (.tail _ (.tail _ (.tail _ h))))))))), (q858.sub (fun i h => (List.mem_cons.1 h).elim (fun e => e ▸ (List.mem_append_right _ (.tail _ (.head _)))) (fun h => (List.mem_cons.1 h).elim (fun e => e ▸ (List.mem_append_right _ (.tail _ (.tail _ (.head _))))) (fun h => (List.mem_append.1 h).elim (fun h => (List.mem_append_left _ h)) (fun h => (List.mem_append_right _ (.tail _ (.tail _ (.tail _ h))))))))), (sepC (show ∀ x ∈ [ob0], x ∉ (ob0_1 :: (ownB h716 ++ (ob0_2 :: (ownB hp0_2_0 ++ (ownB hp0_3 ++ (ownB hp0_4 ++ L)))))) from (in1 (nc (D.bb (i := 0) (j := 1) rfl rfl rfl) (na n735 (nc (D.bb (i := 0) (j := 3) rfl rfl rfl) (na (D.bo (i := 0) (j := 4) rfl rfl rfl) (na (D.bo (i := 0) (j := 5) rfl rfl rfl) (na (D.bo (i := 0) (j := 6) rfl rfl rfl) (D.bl (i := 0) rfl))))))))) (sepC (show ∀ x ∈ [ob0_1], x ∉ (ownB h716 ++ (ob0_2 :: (ownB hp0_2_0 ++ (ownB hp0_3 ++ (ownB hp0_4 ++ L))))) from (in1 (na n736 (nc (D.bb (i := 1) (j := 3) rfl rfl rfl) (na (D.bo (i := 1) (j := 4) rfl rfl rfl) (na (D.bo (i := 1) (j := 5) rfl rfl rfl) (na (D.bo (i := 1) (j := 6) rfl rfl rfl) (D.bl (i := 1) rfl)))))))) (sepC (show ∀ x ∈ ownB h716, x ∉ (ob0_2 :: (ownB hp0_2_0 ++ (ownB hp0_3 ++ (ownB hp0_4 ++ L)))) from (fun x hx => (nc (nbo n737 hx) (na ((djs n739) x hx) (na ((djs n740) x hx) (na ((djs n741) x hx) (n733 x hx))))))) (sepC (show ∀ x ∈ [ob0_2], x ∉ (ownB hp0_2_0 ++ (ownB hp0_3 ++ (ownB hp0_4 ++ L))) from (in1 (na (D.bo (i := 3) (j := 4) rfl rfl rfl) (na (D.bo (i := 3) (j := 5) rfl rfl rfl) (na (D.bo (i := 3) (j := 6) rfl rfl rfl) (D.bl (i := 3) rfl)))))) (sepC (show ∀ x ∈ ownB hp0_2_0, x ∉ (ownB hp0_3 ++ (ownB hp0_4 ++ L)) from (fun x hx => (na ((D.dj (i := 4) (j := 5) rfl rfl rfl) x hx) (na ((D.dj (i := 4) (j := 6) rfl rfl rfl) x hx) ((D.dl (i := 4) rfl) x hx))))) (sepC (show ∀ x ∈ ownB hp0_3, x ∉ (ownB hp0_4 ++ L) from (fun x hx => (na ((D.dj (i := 5) (j := 6) rfl rfl rfl) x hx) ((D.dl (i := 5) rfl) x hx)))) (sepC (show ∀ x ∈ ownB hp0_4, x ∉ L from (fun x hx => ((D.dl (i := 6) rfl) x hx))) sepN))))))), n734, (fun _ h => .inl (.tail _ (.tail _ (List.mem_append_right _ (.tail _ (List.mem_append_right _ (List.mem_append_right _ (List.mem_append_left _ h)))))))), (show ∀ b ∈ (ob0 :: (ob0_1 :: (ownB h716 ++ (ob0_2 :: (ownB hp0_2_0 ++ (ownB hp0_3 ++ (ownB hp0_4 ++ L))))))), b < w776.heap.size from (fun i h => cx782.lt i ((List.mem_cons.1 h).elim (fun e => e ▸ (List.mem_append_right _ (.tail _ (.head _)))) (fun h => (List.mem_cons.1 h).elim (fun e => e ▸ (List.mem_append_right _ (.tail _ (.tail _ (.head _))))) (fun h => (List.mem_append.1 h).elim (fun h => (List.mem_append_left _ h)) (fun h => (List.mem_append_right _ (.tail _ (.tail _ (.tail _ h)))))))))), cx782.g⟩)
 replace h := (ifN hb570).symm.trans h
 refine wp_seq ?_
 refine reg ?_
 have s859 := p568.o (p565.o s380 rfl) rfl
 refine s1 p568.z (okEq s859 cst) rfl fun a860 p861 s862 => ?_
 refine s1 p861.z (okAs s862) rfl fun a863 p864 s865 => ?_
 refine rN (thenN ?_)
 have s866 := p864.o (p861.o s859 rfl) rfl
 have pg867 : Pg _ [104, 105, 132, 133] _ _ := (((((Pg.refl pg381.z).st p565 rfl).st p568 rfl).st p861 rfl).st p864 rfl)
 refine cnd s865 (fun hb868 => ?_) (fun hb868 => ?_)
 ·replace h := (ifP hb868).symm.trans h
  refine regT 10 mixed (by kernel_rfl) ?_
  have g869 := G.drew w10
  have cx870 := cx16.ca g869
  have s871 := pg867.o (pg381.o (pg179.o (pg37.o s0_2 rfl) rfl) rfl) rfl
  refine t1 pg867.z (okMv s871) rfl fun a872 p873 s874 => ?_
  have s875 := p873.o (pg867.o (pg381.o (pg179.o s34 rfl) rfl) rfl) rfl
  refine t1 p873.z (okFA (o' := 1) fo40_1 s875 rfl) rfl fun a876 p877 s878 => ?_
  have m879 := m13.g0 g869
  refine t1 p877.z (okLd (j := 1) na3 s878 (m879.cl) rfl rfl) rfl fun a880 p881 s882 => ?_
  have s883 := p881.o (p877.o (p873.o (pg867.o (pg381.o (pg179.o (pg37.o s0_0 rfl) rfl) rfl) rfl) rfl) rfl) rfl
  refine t1 p881.z (okMv s883) rfl fun a884 p885 s886 => ?_
  refine t1 p885.z (okNil s886) rfl fun a887 p888 s889 => ?_
  refine t1 p888.z (okFA (o' := 3) fo68_3 s889 rfl) rfl fun a890 p891 s892 => ?_
  have m893 := (mob0.g0 g14).g0 g869
  refine t1 p891.z (okLd (j := 3) na3 s892 (m893.cl) rfl rfl) rfl fun a894 p895 s896 => ?_
  have s897 := p895.o (p891.o (p888.o (p885.o (p881.o (p877.o s874 rfl) rfl) rfl) rfl) rfl) rfl
  refine t1 p895.z (okNil s897) rfl fun a898 p899 s900 => ?_
  refine t1 p899.z (okFA (o' := x2.toNat * 17 + 1) fo66_1 s900 rfl) rfl fun a901 p902 s903 => ?_
  have s904 := p902.o (p899.o (p895.o (p891.o (p888.o (p885.o s882 rfl) rfl) rfl) rfl) rfl) rfl
  by_cases hi905 : 0 ≤ x1.a ∧ x1.a < 16
  case neg => rw [if_neg hi905] at h; cases h
  replace h := (if_pos hi905).symm.trans h
  refine t1 p902.z (okIA Try.underlying64 Try.sizeOf2 s903 s904 hi905) rfl fun a906 p907 s908 => ?_
  refine tN ?_
  have s909 := p907.o (p902.o (p899.o s896 rfl) rfl) rfl
  have e910 := (e6.g0 g14).g0 g869
  have q911 := (qhp0_3.t0 (g14.tA (Nat.le_of_eq e15.symm)) g14).t0 g869.t0 g869
  have m915 := (mob0_1.g0 g14).g0 g869
  have m916 := (mob0_2.g0 g14).g0 g869
  refine lS (oStoE (K := KTFrame) (e' := ({ y1 with r := y1.r.set x1.a x0.i })) (vs := [.int .i64 x0.i]) (j := 1 + x1.a.toNat) p907.z s908 s909 q911 hy2 eb2 e910 (fun _ h => (.tail _ (.tail _ (.tail _ (List.mem_append_right _ (.tail _ (List.mem_append_right _ (List.mem_append_left _ h)))))))) (Nat.add_assoc _ _ _).symm Try.sizeOf2 rfl one1 rfl (ble (by have := hi905; show 1 + _ + 1 ≤ 17; omega)) (TFrame.C_r_set _ hi905 _) rfl fun w912 q913 g914 => ?_)
  have cx917 := cx870.cs g914 (fun _ h => .inl (.tail _ (.tail _ (List.mem_append_right _ (.tail _ (List.mem_append_right _ (List.mem_append_left _ h)))))))
  refine rN (blkN (thenN ?_))
  refine wp_seq ?_
  refine reg ?_
  refine s1 p907.z (okAs cst) rfl fun a918 p919 s920 => ?_
  refine rN (thenN ?_)
  obtain rfl := Option.some.inj h
  have m921 := m893.g g914 (D.bo (i := 0) (j := 5) rfl rfl rfl)
  have q922 := qhp0_0.mono (((g14.tA (Nat.le_of_eq e15.symm)).trans g869.t0).trans (g914.t (fun _ h => (.tail _ (.tail _ (.tail _ (List.mem_append_right _ (.tail _ (List.mem_append_right _ (List.mem_append_left _ h))))))))))
  have m923 := m915.g g914 (D.bo (i := 1) (j := 5) rfl rfl rfl)
  have q924 := ((qhp0_1_0.t0 (g14.tA (Nat.le_of_eq e15.symm)) g14).t0 g869.t0 g869).tr (g914.t (fun _ h => (.tail _ (.tail _ (.tail _ (List.mem_append_right _ (.tail _ (List.mem_append_right _ (List.mem_append_left _ h))))))))) g914 (D.dj (i := 2) (j := 5) rfl rfl rfl)
  have m925 := m916.g g914 (D.bo (i := 3) (j := 5) rfl rfl rfl)
  have q926 := ((qhp0_2_0.t0 (g14.tA (Nat.le_of_eq e15.symm)) g14).t0 g869.t0 g869).tr (g914.t (fun _ h => (.tail _ (.tail _ (.tail _ (List.mem_append_right _ (.tail _ (List.mem_append_right _ (List.mem_append_left _ h))))))))) g914 (D.dj (i := 4) (j := 5) rfl rfl rfl)
  have q927 := ((qhp0_4.t0 (g14.tA (Nat.le_of_eq e15.symm)) g14).t0 g869.t0 g869).tr (g914.t (fun _ h => (.tail _ (.tail _ (.tail _ (List.mem_append_right _ (.tail _ (List.mem_append_right _ (List.mem_append_left _ h))))))))) g914 (djs (D.dj (i := 5) (j := 6) rfl rfl rfl))
  exact wp_ret (ret1 p919.z Try.results37 (rvT s920) ⟨_, rfl, hp0_1_0, hp0_4, rfl, m921, (q922.mono ((Tr.refl _ _).sub (fun i h => (.tail _ h)))), m923, (q924.sub (fun i h => (.tail _ h))), m925, (q926.sub (fun i h => (.tail _ h))), (q913.sub (fun i h => (.tail _ h))), (q927.sub (fun i h => (.tail _ h))), (sepC (show ∀ x ∈ [ob0], x ∉ (ob0_1 :: (ownB hp0_1_0 ++ (ob0_2 :: (ownB hp0_2_0 ++ (ownB hp0_3 ++ (ownB hp0_4 ++ L)))))) from (in1 (nc (D.bb (i := 0) (j := 1) rfl rfl rfl) (na (D.bo (i := 0) (j := 2) rfl rfl rfl) (nc (D.bb (i := 0) (j := 3) rfl rfl rfl) (na (D.bo (i := 0) (j := 4) rfl rfl rfl) (na (D.bo (i := 0) (j := 5) rfl rfl rfl) (na (D.bo (i := 0) (j := 6) rfl rfl rfl) (D.bl (i := 0) rfl))))))))) (sepC (show ∀ x ∈ [ob0_1], x ∉ (ownB hp0_1_0 ++ (ob0_2 :: (ownB hp0_2_0 ++ (ownB hp0_3 ++ (ownB hp0_4 ++ L))))) from (in1 (na (D.bo (i := 1) (j := 2) rfl rfl rfl) (nc (D.bb (i := 1) (j := 3) rfl rfl rfl) (na (D.bo (i := 1) (j := 4) rfl rfl rfl) (na (D.bo (i := 1) (j := 5) rfl rfl rfl) (na (D.bo (i := 1) (j := 6) rfl rfl rfl) (D.bl (i := 1) rfl)))))))) (sepC (show ∀ x ∈ ownB hp0_1_0, x ∉ (ob0_2 :: (ownB hp0_2_0 ++ (ownB hp0_3 ++ (ownB hp0_4 ++ L)))) from (fun x hx => (nc (nbo (D.ob (i := 2) (j := 3) rfl rfl rfl) hx) (na ((D.dj (i := 2) (j := 4) rfl rfl rfl) x hx) (na ((D.dj (i := 2) (j := 5) rfl rfl rfl) x hx) (na ((D.dj (i := 2) (j := 6) rfl rfl rfl) x hx) ((D.dl (i := 2) rfl) x hx))))))) (sepC (show ∀ x ∈ [ob0_2], x ∉ (ownB hp0_2_0 ++ (ownB hp0_3 ++ (ownB hp0_4 ++ L))) from (in1 (na (D.bo (i := 3) (j := 4) rfl rfl rfl) (na (D.bo (i := 3) (j := 5) rfl rfl rfl) (na (D.bo (i := 3) (j := 6) rfl rfl rfl) (D.bl (i := 3) rfl)))))) (sepC (show ∀ x ∈ ownB hp0_2_0, x ∉ (ownB hp0_3 ++ (ownB hp0_4 ++ L)) from (fun x hx => (na ((D.dj (i := 4) (j := 5) rfl rfl rfl) x hx) (na ((D.dj (i := 4) (j := 6) rfl rfl rfl) x hx) ((D.dl (i := 4) rfl) x hx))))) (sepC (show ∀ x ∈ ownB hp0_3, x ∉ (ownB hp0_4 ++ L) from (fun x hx => (na ((D.dj (i := 5) (j := 6) rfl rfl rfl) x hx) ((D.dl (i := 5) rfl) x hx)))) (sepC (show ∀ x ∈ ownB hp0_4, x ∉ L from (fun x hx => ((D.dl (i := 6) rfl) x hx))) sepN))))))), (fun _ h => .inl (.tail _ (.tail _ (List.mem_append_left _ h)))), (fun _ h => .inl (.tail _ (.tail _ (List.mem_append_right _ (.tail _ (List.mem_append_right _ (List.mem_append_right _ (List.mem_append_left _ h)))))))), (show ∀ b ∈ (ob0 :: (ob0_1 :: (ownB hp0_1_0 ++ (ob0_2 :: (ownB hp0_2_0 ++ (ownB hp0_3 ++ (ownB hp0_4 ++ L))))))), b < w912.heap.size from (fun i h => cx917.lt i (.tail _ h))), cx917.g⟩)
 replace h := (ifN hb868).symm.trans h
 refine wp_seq ?_
 refine reg ?_
 refine s1 pg867.z (okEq s866 cst) rfl fun a928 p929 s930 => ?_
 refine s1 p929.z (okAs s930) rfl fun a931 p932 s933 => ?_
 refine rN (thenN ?_)
 refine cnd s933 (fun hb934 => ?_) (fun hb934 => ?_)
 ·replace h := (ifP hb934).symm.trans h
  have q935 := qhp0_0.mono (g14.tA (Nat.le_of_eq e15.symm))
  have q936 := qhp0_1_0.t0 (g14.tA (Nat.le_of_eq e15.symm)) g14
  have q937 := qhp0_2_0.t0 (g14.tA (Nat.le_of_eq e15.symm)) g14
  have q938 := qhp0_3.t0 (g14.tA (Nat.le_of_eq e15.symm)) g14
  have q939 := qhp0_4.t0 (g14.tA (Nat.le_of_eq e15.symm)) g14
  obtain ⟨t967, ht968, h⟩ := Option.bind_eq_some_iff.1 h
  by_cases hi986 : 0 ≤ x1.a ∧ x1.a < 16
  case neg => rw [if_neg hi986] at h; cases h
  replace h := (if_pos hi986).symm.trans h
  have s1001 := p932.o (p929.o (pg867.o (pg381.o (pg179.o s35 rfl) rfl) rfl) rfl) rfl
  have m1002 := mob0.g0 g14
  have m1003 := mob0_1.g0 g14
  have m1004 := mob0_2.g0 g14
  refine regJ (fun a' w' => Z Try.f37.ntmps a' ∧ a'.eval (.tmp 6) = .bool false ∧ Bk w' ob0 (Tmicro_machine.C ({ x0 with a := default, t := default, l := (x0.l.set x2.toNat ({ y1 with r := y1.r.set x1.a t967 })) }) hp0_0 (ptr ob0_1 0) (ptr ob0_2 0) hp0_3 hp0_4) 68 ∧ Bk w' ob0_1 (Tcell_Arena.C x0.a hp0_1_0) 72 ∧ Bk w' ob0_2 (Tpermit_Table.C x0.t hp0_2_0) 78 ∧ Bk w' b11 (TIns.C x1) 40 ∧ OwnS (KInt .i64) 2 (b11 :: (ob0 :: (ob0_1 :: (ownB hp0_1_0 ++ (ob0_2 :: (ownB hp0_2_0 ++ (ownB hp0_3 ++ (ownB hp0_4 ++ L)))))))) w' hp0_1_0 x0.a.l ∧ OwnS KTPark 59 (b11 :: (ob0 :: (ob0_1 :: (ownB hp0_1_0 ++ (ob0_2 :: (ownB hp0_2_0 ++ (ownB hp0_3 ++ (ownB hp0_4 ++ L)))))))) w' hp0_2_0 x0.t.l ∧ OwnS KTFrame 66 (b11 :: (ob0 :: (ob0_1 :: (ownB hp0_1_0 ++ (ob0_2 :: (ownB hp0_2_0 ++ (ownB hp0_3 ++ (ownB hp0_4 ++ L)))))))) w' hp0_3 (x0.l.set x2.toNat ({ y1 with r := y1.r.set x1.a t967 })) ∧ OwnS KTNote 80 (b11 :: (ob0 :: (ob0_1 :: (ownB hp0_1_0 ++ (ob0_2 :: (ownB hp0_2_0 ++ (ownB hp0_3 ++ (ownB hp0_4 ++ L)))))))) w' hp0_4 x0.notes ∧ Cx (ob0 :: (ob0_1 :: (ownB hp0_1_0 ++ (ob0_2 :: (ownB hp0_2_0 ++ (ownB hp0_3 ++ (ownB hp0_4 ++ []))))))) w (b11 :: (ob0 :: (ob0_1 :: (ownB hp0_1_0 ++ (ob0_2 :: (ownB hp0_2_0 ++ (ownB hp0_3 ++ (ownB hp0_4 ++ L)))))))) w' ∧ Tr (b11 :: (ob0 :: (ob0_1 :: (ownB hp0_1_0 ++ (ob0_2 :: (ownB hp0_2_0 ++ (ownB hp0_3 ++ (ownB hp0_4 ++ L)))))))) w10 (b11 :: (ob0 :: (ob0_1 :: (ownB hp0_1_0 ++ (ob0_2 :: (ownB hp0_2_0 ++ (ownB hp0_3 ++ (ownB hp0_4 ++ L)))))))) w') ?_ ?_
  ·refine regH (n := 12) [(2, fun w' => Cl w' b11 1 [.int .i64 x1.a]), (6, fun w' => Cl w' ob0 2 [ptr ob0_2 0])] mixed rfl ?_
   have g1005 := G.drew w10
   have cx1006 := cx16.ca g1005
   have s1007 := p932.o (p929.o (pg867.o (pg381.o (pg179.o (pg37.o s0_2 rfl) rfl) rfl) rfl) rfl) rfl
   refine hTakeW (i := 0) rfl (by kernel_rfl) (by kernel_rfl) (by kernel_rfl) nrm (cond := fun _ => True) (.inl fun _ => trivial) p932.z (wN rfl) (fun _ _ => okMv s1007) trivial rfl fun a1008 p1009 sp1009 => ?_
   have s1010 := p1009.o (p932.o (p929.o (pg867.o (pg381.o (pg179.o s34 rfl) rfl) rfl) rfl) rfl) rfl
   refine hTakeW (i := 1) rfl (by kernel_rfl) (by kernel_rfl) (by kernel_rfl) nrm (cond := fun _ => True) (.inl fun _ => trivial) p1009.z (wN rfl) (fun _ _ => okFA (o' := 1) fo40_1 s1010 rfl) trivial rfl fun a1011 p1012 sp1012 => ?_
   have m1013 := m13.g0 g1005
   refine hTakeW (i := 2) rfl (by kernel_rfl) (by kernel_rfl) (by kernel_rfl) nrm (.inr (.head _)) p1012.z (wN rfl) (fun _ h => okLd (j := 0) na3 sp1012 h rfl rfl) (m1013.clp rfl) rfl fun a1014 p1015 sp1015 => ?_
   have s1016 := p1015.o (p1012.o (p1009.o (p932.o (p929.o (pg867.o (pg381.o (pg179.o (pg37.o s0_0 rfl) rfl) rfl) rfl) rfl) rfl) rfl) rfl) rfl
   refine hTakeW (i := 3) rfl (by kernel_rfl) (by kernel_rfl) (by kernel_rfl) nrm (cond := fun _ => True) (.inl fun _ => trivial) p1015.z (wN rfl) (fun _ _ => okMv s1016) trivial rfl fun a1017 p1018 sp1018 => ?_
   refine hTakeW (i := 4) rfl (by kernel_rfl) (by kernel_rfl) (by kernel_rfl) nrm (cond := fun _ => True) (.inl fun _ => trivial) p1018.z (wN rfl) (fun _ _ => okNil sp1018) trivial rfl fun a1019 p1020 sp1020 => ?_
   refine hTakeW (i := 5) rfl (by kernel_rfl) (by kernel_rfl) (by kernel_rfl) nrm (cond := fun _ => True) (.inl fun _ => trivial) p1020.z (wN rfl) (fun _ _ => okFA (o' := 2) fo68_2 sp1020 rfl) trivial rfl fun a1021 p1022 sp1022 => ?_
   have m1023 := m1002.g0 g1005
   refine hTakeW (i := 6) rfl (by kernel_rfl) (by kernel_rfl) (by kernel_rfl) nrm (.inr (.tail _ (.head _))) p1022.z (wN rfl) (fun _ h => okLd (j := 0) na25 sp1022 h rfl rfl) (m1023.clp rfl) rfl fun a1024 p1025 sp1025 => ?_
   have s1026 := p1025.o (p1022.o (p1020.o (p1018.o (p1015.o (p1012.o sp1009 rfl) rfl) rfl) rfl) rfl) rfl
   refine hTakeW (i := 8) rfl (by kernel_rfl) (by kernel_rfl) (by kernel_rfl) nrm (cond := fun _ => True) (.inl fun _ => trivial) p1025.z (wN rfl) (fun _ _ => okNil s1026) trivial rfl fun a1027 p1028 sp1028 => ?_
   refine hTakeW (i := 9) rfl (by kernel_rfl) (by kernel_rfl) (by kernel_rfl) nrm (cond := fun _ => True) (.inl fun _ => trivial) p1028.z (wN rfl) (fun _ _ => okFA (o' := x2.toNat * 17 + 1) fo66_1 sp1028 rfl) trivial rfl fun a1029 p1030 sp1030 => ?_
   have s1031 := p1030.o (p1028.o sp1025 rfl) rfl
   have m1032 := m1004.g0 g1005
   have q1033 := q937.t0 g1005.t0 g1005
   have m1034 := m1003.g0 g1005
   refine hOne (i := 7) (by kernel_rfl) rfl (oCall p1030.z Try.call41 (ag1 s1031) (c41 (b11 :: (ob0 :: (ob0_1 :: (ownB hp0_1_0 ++ (ownB hp0_3 ++ (ownB hp0_4 ++ L)))))) w10.drew x0.t ob0_2 hp0_2_0 (fun i h => cx1006.lt i ((List.mem_cons.1 h).elim (fun e => e ▸ (.tail _ (.tail _ (.tail _ (List.mem_append_right _ (.head _)))))) (fun h => (List.mem_append.1 h).elim (fun h => (.tail _ (.tail _ (.tail _ (List.mem_append_right _ (.tail _ (List.mem_append_left _ h))))))) (fun h => (List.mem_cons.1 h).elim (fun e => e ▸ (.head _)) (fun h => (List.mem_cons.1 h).elim (fun e => e ▸ (.tail _ (.head _))) (fun h => (List.mem_cons.1 h).elim (fun e => e ▸ (.tail _ (.tail _ (.head _)))) (fun h => (List.mem_append.1 h).elim (fun h => (.tail _ (.tail _ (.tail _ (List.mem_append_left _ h))))) (fun h => (.tail _ (.tail _ (.tail _ (List.mem_append_right _ (.tail _ (List.mem_append_right _ h)))))))))))))) (sepC (show ∀ x ∈ [ob0_2], x ∉ (ownB hp0_2_0 ++ (b11 :: (ob0 :: (ob0_1 :: (ownB hp0_1_0 ++ (ownB hp0_3 ++ (ownB hp0_4 ++ L))))))) from (in1 (na (D.bo (i := 3) (j := 4) rfl rfl rfl) (nc (mob0_2.ne e15) (nc (D.bb (i := 0) (j := 3) rfl rfl rfl).symm (nc (D.bb (i := 1) (j := 3) rfl rfl rfl).symm (na (D.ob (i := 2) (j := 3) rfl rfl rfl) (na (D.bo (i := 3) (j := 5) rfl rfl rfl) (na (D.bo (i := 3) (j := 6) rfl rfl rfl) (D.bl (i := 3) rfl)))))))))) (sepC (show ∀ x ∈ ownB hp0_2_0, x ∉ (b11 :: (ob0 :: (ob0_1 :: (ownB hp0_1_0 ++ (ownB hp0_3 ++ (ownB hp0_4 ++ L)))))) from (fun x hx => (nc (nbo (qhp0_2_0.nb e15) hx) (nc (nbo (D.bo (i := 0) (j := 4) rfl rfl rfl) hx) (nc (nbo (D.bo (i := 1) (j := 4) rfl rfl rfl) hx) (na ((djs (D.dj (i := 2) (j := 4) rfl rfl rfl)) x hx) (na ((D.dj (i := 4) (j := 5) rfl rfl rfl) x hx) (na ((D.dj (i := 4) (j := 6) rfl rfl rfl) x hx) ((D.dl (i := 4) rfl) x hx))))))))) sepN)) m1032 (q1033.sub (fun i h => (List.mem_cons.1 h).elim (fun e => e ▸ (.tail _ (.tail _ (.tail _ (List.mem_append_right _ (.head _)))))) (fun h => (List.mem_append.1 h).elim (fun h => (.tail _ (.tail _ (.tail _ (List.mem_append_right _ (.tail _ (List.mem_append_left _ h))))))) (fun h => (List.mem_cons.1 h).elim (fun e => e ▸ (.head _)) (fun h => (List.mem_cons.1 h).elim (fun e => e ▸ (.tail _ (.head _))) (fun h => (List.mem_cons.1 h).elim (fun e => e ▸ (.tail _ (.tail _ (.head _)))) (fun h => (List.mem_append.1 h).elim (fun h => (.tail _ (.tail _ (.tail _ (List.mem_append_left _ h))))) (fun h => (.tail _ (.tail _ (.tail _ (List.mem_append_right _ (.tail _ (List.mem_append_right _ h)))))))))))))) _ ht968) rfl fun v1038 a1035 w1036 hp1039 p1037 sp1037 => ?_)
   obtain ⟨rfl, g1042⟩ := hp1039
   have cx1043 := cx1006.ca g1042
   refine ⟨⟨.inr fun h => h.g0 g1042, .inl (by kernel_rfl), trivial⟩, ?_⟩
   have s1044 := p1037.o sp1030 rfl
   have s1045 := p1037.o (p1030.o (p1028.o (p1025.o (p1022.o (p1020.o (p1018.o sp1015 rfl) rfl) rfl) rfl) rfl) rfl) rfl
   refine hTakeW (i := 10) rfl (by kernel_rfl) (by kernel_rfl) (by kernel_rfl) nrm (cond := fun _ => True) (.inl fun _ => trivial) p1037.z (wN rfl) (fun _ _ => okIA Try.underlying64 Try.sizeOf2 s1044 s1045 hi986) trivial rfl fun a1046 p1047 sp1047 => ?_
   have s1048 := p1047.o sp1037 rfl
   have e1049 := ((e6.g0 g14).g0 g1005).g0 g1042
   have q1050 := (q938.t0 g1005.t0 g1005).t0 g1042.t0 g1042
   have m1054 := m1023.g0 g1042
   have m1055 := m1034.g0 g1042
   have m1056 := m1032.g0 g1042
   have m1057 := m1013.g0 g1042
   refine hOne (i := 11) (by kernel_rfl) rfl (oStoE (K := KTFrame) (e' := ({ y1 with r := y1.r.set x1.a t967 })) (vs := [.int .i64 t967]) (j := 1 + x1.a.toNat) p1047.z sp1047 s1048 q1050 hy2 eb2 e1049 (fun _ h => (.tail _ (.tail _ (.tail _ (List.mem_append_right _ (.tail _ (List.mem_append_right _ (List.mem_append_left _ h)))))))) (Nat.add_assoc _ _ _).symm Try.sizeOf2 rfl one1 rfl (ble (by have := hi986; show 1 + _ + 1 ≤ 17; omega)) (TFrame.C_r_set _ hi986 _) rfl fun w1051 q1052 g1053 => ?_)
   have cx1058 := cx1043.cs g1053 (fun _ h => .inl (.tail _ (.tail _ (List.mem_append_right _ (.tail _ (List.mem_append_right _ (List.mem_append_left _ h)))))))
   refine ⟨⟨.inl (by kernel_rfl), .inl (by kernel_rfl), trivial⟩, ?_⟩
   have q1059 := ((q936.t0 g1005.t0 g1005).t0 g1042.t0 g1042).tr (g1053.t (fun _ h => (.tail _ (.tail _ (.tail _ (List.mem_append_right _ (.tail _ (List.mem_append_right _ (List.mem_append_left _ h))))))))) g1053 (D.dj (i := 2) (j := 5) rfl rfl rfl)
   have q1060 := (q1033.t0 g1042.t0 g1042).tr (g1053.t (fun _ h => (.tail _ (.tail _ (.tail _ (List.mem_append_right _ (.tail _ (List.mem_append_right _ (List.mem_append_left _ h))))))))) g1053 (D.dj (i := 4) (j := 5) rfl rfl rfl)
   have q1061 := ((q939.t0 g1005.t0 g1005).t0 g1042.t0 g1042).tr (g1053.t (fun _ h => (.tail _ (.tail _ (.tail _ (List.mem_append_right _ (.tail _ (List.mem_append_right _ (List.mem_append_left _ h))))))))) g1053 (djs (D.dj (i := 5) (j := 6) rfl rfl rfl))
   have s1062 := p1047.o (p1037.o (p1030.o (p1028.o (p1025.o (p1022.o (p1020.o (p1018.o (p1015.o (p1012.o (p1009.o s1001 rfl) rfl) rfl) rfl) rfl) rfl) rfl) rfl) rfl) rfl) rfl
   have m1063 := m1054.g g1053 (D.bo (i := 0) (j := 5) rfl rfl rfl)
   have m1064 := m1055.g g1053 (D.bo (i := 1) (j := 5) rfl rfl rfl)
   have m1065 := m1056.g g1053 (D.bo (i := 3) (j := 5) rfl rfl rfl)
   have m1066 := m1057.g g1053 (qhp0_3.nb e15)
   exact hDone (by kernel_rfl) ⟨rfl, p1047.z, s1062, m1063, m1064, m1065, m1066, q1059, q1060, q1052, q1061, cx1058, ((g1005.t0.trans g1042.t0).trans (g1053.t (fun _ h => (.tail _ (.tail _ (.tail _ (List.mem_append_right _ (.tail _ (List.mem_append_right _ (List.mem_append_left _ h))))))))))⟩
  rintro a1067 w1068 ⟨z1069, s1070, m1071, m1072, m1073, m1074, q1075, q1076, q1077, q1078, cx1079, t1080⟩
  refine blkN (thenN ?_)
  refine wp_seq ?_
  refine reg ?_
  refine s1 z1069 (okAs cst) rfl fun a1081 p1082 s1083 => ?_
  refine rN (thenN ?_)
  obtain rfl := Option.some.inj h
  have q1084 := q935.mono t1080
  exact wp_ret (ret1 p1082.z Try.results37 (rvT s1083) ⟨_, rfl, hp0_1_0, hp0_4, rfl, m1071, (q1084.mono ((Tr.refl _ _).sub (fun i h => (.tail _ h)))), m1072, (q1075.sub (fun i h => (.tail _ h))), m1073, (q1076.sub (fun i h => (.tail _ h))), (q1077.sub (fun i h => (.tail _ h))), (q1078.sub (fun i h => (.tail _ h))), (sepC (show ∀ x ∈ [ob0], x ∉ (ob0_1 :: (ownB hp0_1_0 ++ (ob0_2 :: (ownB hp0_2_0 ++ (ownB hp0_3 ++ (ownB hp0_4 ++ L)))))) from (in1 (nc (D.bb (i := 0) (j := 1) rfl rfl rfl) (na (D.bo (i := 0) (j := 2) rfl rfl rfl) (nc (D.bb (i := 0) (j := 3) rfl rfl rfl) (na (D.bo (i := 0) (j := 4) rfl rfl rfl) (na (D.bo (i := 0) (j := 5) rfl rfl rfl) (na (D.bo (i := 0) (j := 6) rfl rfl rfl) (D.bl (i := 0) rfl))))))))) (sepC (show ∀ x ∈ [ob0_1], x ∉ (ownB hp0_1_0 ++ (ob0_2 :: (ownB hp0_2_0 ++ (ownB hp0_3 ++ (ownB hp0_4 ++ L))))) from (in1 (na (D.bo (i := 1) (j := 2) rfl rfl rfl) (nc (D.bb (i := 1) (j := 3) rfl rfl rfl) (na (D.bo (i := 1) (j := 4) rfl rfl rfl) (na (D.bo (i := 1) (j := 5) rfl rfl rfl) (na (D.bo (i := 1) (j := 6) rfl rfl rfl) (D.bl (i := 1) rfl)))))))) (sepC (show ∀ x ∈ ownB hp0_1_0, x ∉ (ob0_2 :: (ownB hp0_2_0 ++ (ownB hp0_3 ++ (ownB hp0_4 ++ L)))) from (fun x hx => (nc (nbo (D.ob (i := 2) (j := 3) rfl rfl rfl) hx) (na ((D.dj (i := 2) (j := 4) rfl rfl rfl) x hx) (na ((D.dj (i := 2) (j := 5) rfl rfl rfl) x hx) (na ((D.dj (i := 2) (j := 6) rfl rfl rfl) x hx) ((D.dl (i := 2) rfl) x hx))))))) (sepC (show ∀ x ∈ [ob0_2], x ∉ (ownB hp0_2_0 ++ (ownB hp0_3 ++ (ownB hp0_4 ++ L))) from (in1 (na (D.bo (i := 3) (j := 4) rfl rfl rfl) (na (D.bo (i := 3) (j := 5) rfl rfl rfl) (na (D.bo (i := 3) (j := 6) rfl rfl rfl) (D.bl (i := 3) rfl)))))) (sepC (show ∀ x ∈ ownB hp0_2_0, x ∉ (ownB hp0_3 ++ (ownB hp0_4 ++ L)) from (fun x hx => (na ((D.dj (i := 4) (j := 5) rfl rfl rfl) x hx) (na ((D.dj (i := 4) (j := 6) rfl rfl rfl) x hx) ((D.dl (i := 4) rfl) x hx))))) (sepC (show ∀ x ∈ ownB hp0_3, x ∉ (ownB hp0_4 ++ L) from (fun x hx => (na ((D.dj (i := 5) (j := 6) rfl rfl rfl) x hx) ((D.dl (i := 5) rfl) x hx)))) (sepC (show ∀ x ∈ ownB hp0_4, x ∉ L from (fun x hx => ((D.dl (i := 6) rfl) x hx))) sepN))))))), (fun _ h => .inl (.tail _ (.tail _ (List.mem_append_left _ h)))), (fun _ h => .inl (.tail _ (.tail _ (List.mem_append_right _ (.tail _ (List.mem_append_right _ (List.mem_append_right _ (List.mem_append_left _ h)))))))), (show ∀ b ∈ (ob0 :: (ob0_1 :: (ownB hp0_1_0 ++ (ob0_2 :: (ownB hp0_2_0 ++ (ownB hp0_3 ++ (ownB hp0_4 ++ L))))))), b < w1068.heap.size from (fun i h => cx1079.lt i (.tail _ h))), cx1079.g⟩)
 replace h := (ifN hb934).symm.trans h
 refine wp_seq ?_
 refine reg ?_
 have s1085 := p932.o (p929.o s866 rfl) rfl
 refine s1 p932.z (okEq s1085 cst) rfl fun a1086 p1087 s1088 => ?_
 refine s1 p1087.z (okAs s1088) rfl fun a1089 p1090 s1091 => ?_
 refine rN (thenN ?_)
 have s1092 := p1090.o (p1087.o s1085 rfl) rfl
 have pg1093 : Pg _ [144, 145, 157, 158] _ _ := (((((Pg.refl pg867.z).st p929 rfl).st p932 rfl).st p1087 rfl).st p1090 rfl)
 refine cnd s1091 (fun hb1094 => ?_) (fun hb1094 => ?_)
 ·replace h := (ifP hb1094).symm.trans h
  refine wp_seq ?_
  have q1095 := qhp0_0.mono (g14.tA (Nat.le_of_eq e15.symm))
  have q1096 := qhp0_1_0.t0 (g14.tA (Nat.le_of_eq e15.symm)) g14
  have q1097 := qhp0_2_0.t0 (g14.tA (Nat.le_of_eq e15.symm)) g14
  have q1098 := qhp0_3.t0 (g14.tA (Nat.le_of_eq e15.symm)) g14
  have q1099 := qhp0_4.t0 (g14.tA (Nat.le_of_eq e15.symm)) g14
  obtain ⟨t1130, ht1131, h⟩ := Option.bind_eq_some_iff.1 h
  have s1166 := pg1093.o (pg867.o (pg381.o (pg179.o (pg37.o s0_2 rfl) rfl) rfl) rfl) rfl
  have s1167 := pg1093.o (pg867.o (pg381.o (pg179.o s34 rfl) rfl) rfl) rfl
  have s1168 := pg1093.o (pg867.o (pg381.o (pg179.o s35 rfl) rfl) rfl) rfl
  have m1169 := mob0.g0 g14
  have m1170 := mob0_1.g0 g14
  have m1171 := mob0_2.g0 g14
  refine regJ (fun a' w' => ∃ h1137, Z Try.f37.ntmps a' ∧ a'.eval (.tmp 2) = ptr bx2 (x2.toNat * 17) ∧ a'.eval (.tmp 4) = ptr b11 0 ∧ a'.eval (.tmp 6) = .bool false ∧ a'.eval (.tmp 10) = .bool t1130.1 ∧ a'.eval (.tmp 11) = h1137 ∧ Bk w' ob0 (Tmicro_machine.C ({ x0 with a := default, t := default }) hp0_0 (ptr ob0_1 0) (ptr ob0_2 0) hp0_3 hp0_4) 68 ∧ Bk w' ob0_1 (Tcell_Arena.C x0.a hp0_1_0) 72 ∧ Bk w' ob0_2 (Tpermit_Table.C t1130.2.2 hp0_2_0) 78 ∧ Bk w' b11 (TIns.C x1) 40 ∧ ErG 36 0 (b11 :: (ob0 :: (ob0_1 :: (ownB hp0_1_0 ++ (ob0_2 :: (ownB hp0_2_0 ++ (ownB hp0_3 ++ (ownB hp0_4 ++ L)))))))) w' h1137 t1130.2.1 ∧ OwnS (KInt .i64) 2 (b11 :: (ob0 :: (ob0_1 :: (ownB hp0_1_0 ++ (ob0_2 :: (ownB hp0_2_0 ++ (ownB hp0_3 ++ (ownB hp0_4 ++ L)))))))) w' hp0_1_0 x0.a.l ∧ OwnS KTPark 59 (b11 :: (ob0 :: (ob0_1 :: (ownB hp0_1_0 ++ (ob0_2 :: (ownB hp0_2_0 ++ (ownB hp0_3 ++ (ownB hp0_4 ++ L)))))))) w' hp0_2_0 t1130.2.2.l ∧ OwnS KTFrame 66 (b11 :: (ob0 :: (ob0_1 :: (ownB hp0_1_0 ++ (ob0_2 :: (ownB hp0_2_0 ++ (ownB hp0_3 ++ (ownB hp0_4 ++ L)))))))) w' hp0_3 x0.l ∧ OwnS KTNote 80 (b11 :: (ob0 :: (ob0_1 :: (ownB hp0_1_0 ++ (ob0_2 :: (ownB hp0_2_0 ++ (ownB hp0_3 ++ (ownB hp0_4 ++ L)))))))) w' hp0_4 x0.notes ∧ Cx (ob0 :: (ob0_1 :: (ownB hp0_1_0 ++ (ob0_2 :: (ownB hp0_2_0 ++ (ownB hp0_3 ++ (ownB hp0_4 ++ []))))))) w (b11 :: (ob0 :: (ob0_1 :: (ownB hp0_1_0 ++ (ob0_2 :: (ownB hp0_2_0 ++ (ownB hp0_3 ++ (ownB hp0_4 ++ L)))))))) w' ∧ Tr (b11 :: (ob0 :: (ob0_1 :: (ownB hp0_1_0 ++ (ob0_2 :: (ownB hp0_2_0 ++ (ownB hp0_3 ++ (ownB hp0_4 ++ L)))))))) w10 (b11 :: (ob0 :: (ob0_1 :: (ownB hp0_1_0 ++ (ob0_2 :: (ownB hp0_2_0 ++ (ownB hp0_3 ++ (ownB hp0_4 ++ L)))))))) w') ?_ ?_
  ·refine regH (n := 14) [(3, fun w' => Cl w' ob0 2 [ptr ob0_2 0]), (7, fun w' => Cl w' ob0 3 [.int .i64 x0.i])] mixed rfl ?_
   have g1172 := G.drew w10
   have cx1173 := cx16.ca g1172
   have s1174 := pg1093.o (pg867.o (pg381.o (pg179.o (pg37.o s0_0 rfl) rfl) rfl) rfl) rfl
   refine hTakeW (i := 0) rfl (by kernel_rfl) (by kernel_rfl) (by kernel_rfl) nrm (cond := fun _ => True) (.inl fun _ => trivial) pg1093.z (wN rfl) (fun _ _ => okMv s1174) trivial rfl fun a1175 p1176 sp1176 => ?_
   refine hTakeW (i := 1) rfl (by kernel_rfl) (by kernel_rfl) (by kernel_rfl) nrm (cond := fun _ => True) (.inl fun _ => trivial) p1176.z (wN rfl) (fun _ _ => okNil sp1176) trivial rfl fun a1177 p1178 sp1178 => ?_
   refine hTakeW (i := 2) rfl (by kernel_rfl) (by kernel_rfl) (by kernel_rfl) nrm (cond := fun _ => True) (.inl fun _ => trivial) p1178.z (wN rfl) (fun _ _ => okFA (o' := 2) fo68_2 sp1178 rfl) trivial rfl fun a1179 p1180 sp1180 => ?_
   have m1181 := m1169.g0 g1172
   refine hTakeW (i := 3) rfl (by kernel_rfl) (by kernel_rfl) (by kernel_rfl) nrm (.inr (.head _)) p1180.z (wN rfl) (fun _ h => okLd (j := 0) na25 sp1180 h rfl rfl) (m1181.clp rfl) rfl fun a1182 p1183 sp1183 => ?_
   have s1184 := p1183.o (p1180.o (p1178.o (p1176.o s1174 rfl) rfl) rfl) rfl
   refine hTakeW (i := 4) rfl (by kernel_rfl) (by kernel_rfl) (by kernel_rfl) nrm (cond := fun _ => True) (.inl fun _ => trivial) p1183.z (wN rfl) (fun _ _ => okMv s1184) trivial rfl fun a1185 p1186 sp1186 => ?_
   refine hTakeW (i := 5) rfl (by kernel_rfl) (by kernel_rfl) (by kernel_rfl) nrm (cond := fun _ => True) (.inl fun _ => trivial) p1186.z (wN rfl) (fun _ _ => okNil sp1186) trivial rfl fun a1187 p1188 sp1188 => ?_
   refine hTakeW (i := 6) rfl (by kernel_rfl) (by kernel_rfl) (by kernel_rfl) nrm (cond := fun _ => True) (.inl fun _ => trivial) p1188.z (wN rfl) (fun _ _ => okFA (o' := 3) fo68_3 sp1188 rfl) trivial rfl fun a1189 p1190 sp1190 => ?_
   refine hTakeW (i := 7) rfl (by kernel_rfl) (by kernel_rfl) (by kernel_rfl) nrm (.inr (.tail _ (.head _))) p1190.z (wN rfl) (fun _ h => okLd (j := 0) na3 sp1190 h rfl rfl) (m1181.clp rfl) rfl fun a1191 p1192 sp1192 => ?_
   have s1193 := p1192.o (p1190.o (p1188.o (p1186.o sp1183 rfl) rfl) rfl) rfl
   have m1194 := m1171.g0 g1172
   have q1195 := q1097.t0 g1172.t0 g1172
   have m1196 := m1170.g0 g1172
   have m1197 := m13.g0 g1172
   refine hOne (i := 8) (by kernel_rfl) rfl (oCall p1192.z Try.call42 (ag2 s1193 sp1192) (c42 (b11 :: (ob0 :: (ob0_1 :: (ownB hp0_1_0 ++ (ownB hp0_3 ++ (ownB hp0_4 ++ L)))))) w10.drew x0.t ob0_2 hp0_2_0 x0.i (fun i h => cx1173.lt i ((List.mem_cons.1 h).elim (fun e => e ▸ (.tail _ (.tail _ (.tail _ (List.mem_append_right _ (.head _)))))) (fun h => (List.mem_append.1 h).elim (fun h => (.tail _ (.tail _ (.tail _ (List.mem_append_right _ (.tail _ (List.mem_append_left _ h))))))) (fun h => (List.mem_cons.1 h).elim (fun e => e ▸ (.head _)) (fun h => (List.mem_cons.1 h).elim (fun e => e ▸ (.tail _ (.head _))) (fun h => (List.mem_cons.1 h).elim (fun e => e ▸ (.tail _ (.tail _ (.head _)))) (fun h => (List.mem_append.1 h).elim (fun h => (.tail _ (.tail _ (.tail _ (List.mem_append_left _ h))))) (fun h => (.tail _ (.tail _ (.tail _ (List.mem_append_right _ (.tail _ (List.mem_append_right _ h)))))))))))))) (sepC (show ∀ x ∈ [ob0_2], x ∉ (ownB hp0_2_0 ++ (b11 :: (ob0 :: (ob0_1 :: (ownB hp0_1_0 ++ (ownB hp0_3 ++ (ownB hp0_4 ++ L))))))) from (in1 (na (D.bo (i := 3) (j := 4) rfl rfl rfl) (nc (mob0_2.ne e15) (nc (D.bb (i := 0) (j := 3) rfl rfl rfl).symm (nc (D.bb (i := 1) (j := 3) rfl rfl rfl).symm (na (D.ob (i := 2) (j := 3) rfl rfl rfl) (na (D.bo (i := 3) (j := 5) rfl rfl rfl) (na (D.bo (i := 3) (j := 6) rfl rfl rfl) (D.bl (i := 3) rfl)))))))))) (sepC (show ∀ x ∈ ownB hp0_2_0, x ∉ (b11 :: (ob0 :: (ob0_1 :: (ownB hp0_1_0 ++ (ownB hp0_3 ++ (ownB hp0_4 ++ L)))))) from (fun x hx => (nc (nbo (qhp0_2_0.nb e15) hx) (nc (nbo (D.bo (i := 0) (j := 4) rfl rfl rfl) hx) (nc (nbo (D.bo (i := 1) (j := 4) rfl rfl rfl) hx) (na ((djs (D.dj (i := 2) (j := 4) rfl rfl rfl)) x hx) (na ((D.dj (i := 4) (j := 5) rfl rfl rfl) x hx) (na ((D.dj (i := 4) (j := 6) rfl rfl rfl) x hx) ((D.dl (i := 4) rfl) x hx))))))))) sepN)) m1194 (q1195.sub (fun i h => (List.mem_cons.1 h).elim (fun e => e ▸ (.tail _ (.tail _ (.tail _ (List.mem_append_right _ (.head _)))))) (fun h => (List.mem_append.1 h).elim (fun h => (.tail _ (.tail _ (.tail _ (List.mem_append_right _ (.tail _ (List.mem_append_left _ h))))))) (fun h => (List.mem_cons.1 h).elim (fun e => e ▸ (.head _)) (fun h => (List.mem_cons.1 h).elim (fun e => e ▸ (.tail _ (.head _))) (fun h => (List.mem_cons.1 h).elim (fun e => e ▸ (.tail _ (.tail _ (.head _)))) (fun h => (List.mem_append.1 h).elim (fun h => (.tail _ (.tail _ (.tail _ (List.mem_append_left _ h))))) (fun h => (.tail _ (.tail _ (.tail _ (List.mem_append_right _ (.tail _ (List.mem_append_right _ h)))))))))))))) _ ht1131) rfl fun v1201 a1198 w1199 hp1202 p1200 sp1200 => ?_)
   obtain ⟨h1203, rfl, q1204, m1205, q1206, D1207, lt1208, g1209⟩ := hp1202
   have hs1210 : ∀ i ∈ (ob0_2 :: (ownB hp0_2_0 ++ [])), i ∈ (ob0 :: (ob0_1 :: (ownB hp0_1_0 ++ (ob0_2 :: (ownB hp0_2_0 ++ (ownB hp0_3 ++ (ownB hp0_4 ++ []))))))) ∨ w.heap.size ≤ i := (memC (.inl (.tail _ (.tail _ (List.mem_append_right _ (.head _))))) (memA (fun _ h => .inl (.tail _ (.tail _ (List.mem_append_right _ (.tail _ (List.mem_append_left _ h)))))) memN))
   have hs1211 : ∀ i ∈ (ob0_2 :: (ownB hp0_2_0 ++ [])), i ∈ (b11 :: (ob0 :: (ob0_1 :: (ownB hp0_1_0 ++ (ob0_2 :: (ownB hp0_2_0 ++ (ownB hp0_3 ++ (ownB hp0_4 ++ L)))))))) := (memC (.tail _ (.tail _ (.tail _ (List.mem_append_right _ (.head _))))) (memA (fun _ h => (.tail _ (.tail _ (.tail _ (List.mem_append_right _ (.tail _ (List.mem_append_left _ h))))))) memN))
   have t1212 : Tr (b11 :: (ob0 :: (ob0_1 :: (ownB hp0_1_0 ++ (ob0_2 :: (ownB hp0_2_0 ++ (ownB hp0_3 ++ (ownB hp0_4 ++ L)))))))) w10.drew (ob0_2 :: (ownB hp0_2_0 ++ (b11 :: (ob0 :: (ob0_1 :: (ownB hp0_1_0 ++ (ownB hp0_3 ++ (ownB hp0_4 ++ L)))))))) w1199 := G.tC g1209 hs1211 (memC (.inl (.tail _ (.tail _ (.tail _ (List.mem_append_right _ (.head _)))))) (memA (fun _ h => .inl (.tail _ (.tail _ (.tail _ (List.mem_append_right _ (.tail _ (List.mem_append_left _ h))))))) (fun i h => .inl ((List.mem_cons.1 h).elim (fun e => e ▸ (.head _)) (fun h => (List.mem_cons.1 h).elim (fun e => e ▸ (.tail _ (.head _))) (fun h => (List.mem_cons.1 h).elim (fun e => e ▸ (.tail _ (.tail _ (.head _)))) (fun h => (List.mem_append.1 h).elim (fun h => (.tail _ (.tail _ (.tail _ (List.mem_append_left _ h))))) (fun h => (.tail _ (.tail _ (.tail _ (List.mem_append_right _ (.tail _ (List.mem_append_right _ h))))))))))))))
   have cx1213 := cx1173.gs g1209 hs1210 lt1208
   refine ⟨⟨.inl (by kernel_rfl), .inl (by kernel_rfl), trivial⟩, ?_⟩
   refine hTakeW (i := 9) rfl (by kernel_rfl) (by kernel_rfl) (by kernel_rfl) nrm (cond := fun _ => True) (.inl fun _ => trivial) p1200.z (wN rfl) (fun _ _ => okMv sp1200) trivial rfl fun a1214 p1215 sp1215 => ?_
   refine hTakeW (i := 10) rfl (by kernel_rfl) (by kernel_rfl) (by kernel_rfl) nrm (cond := fun _ => True) (.inl fun _ => trivial) p1215.z (wN rfl) (fun _ _ => okExt (vs := [_, _]) sp1215 rfl) trivial rfl fun a1216 p1217 sp1217 => ?_
   have s1218 := p1217.o sp1215 rfl
   refine hTakeW (i := 11) rfl (by kernel_rfl) (by kernel_rfl) (by kernel_rfl) nrm (cond := fun _ => True) (.inl fun _ => trivial) p1217.z (wN rfl) (fun _ _ => okExt (vs := [_, _]) s1218 rfl) trivial rfl fun a1219 p1220 sp1220 => ?_
   have s1221 := p1220.o sp1217 rfl
   refine hTakeW (i := 12) rfl (by kernel_rfl) (by kernel_rfl) (by kernel_rfl) nrm (cond := fun _ => True) (.inl fun _ => trivial) p1220.z (wN rfl) (fun _ _ => okAs s1221) trivial rfl fun a1222 p1223 sp1223 => ?_
   have s1224 := p1223.o sp1220 rfl
   refine hTakeW (i := 13) rfl (by kernel_rfl) (by kernel_rfl) (by kernel_rfl) nrm (cond := fun _ => True) (.inl fun _ => trivial) p1223.z (wN rfl) (fun _ _ => okAs s1224) trivial rfl fun a1225 p1226 sp1226 => ?_
   have q1227 := (q1096.t0 g1172.t0 g1172).tr t1212 g1209 (fun x hx => (nc (nbo (D.ob (i := 2) (j := 3) rfl rfl rfl) hx) (na ((D.dj (i := 2) (j := 4) rfl rfl rfl) x hx) not_nil)))
   have q1228 := (q1098.t0 g1172.t0 g1172).tr t1212 g1209 (fun x hx => (nc (nbo (D.bo (i := 3) (j := 5) rfl rfl rfl) hx) (na ((djs (D.dj (i := 4) (j := 5) rfl rfl rfl)) x hx) not_nil)))
   have q1229 := (q1099.t0 g1172.t0 g1172).tr t1212 g1209 (fun x hx => (nc (nbo (D.bo (i := 3) (j := 6) rfl rfl rfl) hx) (na ((djs (D.dj (i := 4) (j := 6) rfl rfl rfl)) x hx) not_nil)))
   have s1230 := p1226.o (p1223.o (p1220.o (p1217.o (p1215.o (p1200.o (p1192.o (p1190.o (p1188.o (p1186.o (p1183.o (p1180.o (p1178.o (p1176.o s1166 rfl) rfl) rfl) rfl) rfl) rfl) rfl) rfl) rfl) rfl) rfl) rfl) rfl) rfl
   have s1231 := p1226.o (p1223.o (p1220.o (p1217.o (p1215.o (p1200.o (p1192.o (p1190.o (p1188.o (p1186.o (p1183.o (p1180.o (p1178.o (p1176.o s1167 rfl) rfl) rfl) rfl) rfl) rfl) rfl) rfl) rfl) rfl) rfl) rfl) rfl) rfl
   have s1232 := p1226.o (p1223.o (p1220.o (p1217.o (p1215.o (p1200.o (p1192.o (p1190.o (p1188.o (p1186.o (p1183.o (p1180.o (p1178.o (p1176.o s1168 rfl) rfl) rfl) rfl) rfl) rfl) rfl) rfl) rfl) rfl) rfl) rfl) rfl) rfl
   have s1233 := p1226.o sp1223 rfl
   have m1234 := m1181.g g1209 (nc (D.bb (i := 0) (j := 3) rfl rfl rfl) (na (D.bo (i := 0) (j := 4) rfl rfl rfl) not_nil))
   have m1235 := m1196.g g1209 (nc (D.bb (i := 1) (j := 3) rfl rfl rfl) (na (D.bo (i := 1) (j := 4) rfl rfl rfl) not_nil))
   have m1236 := m1197.g g1209 (nc (mob0_2.ne e15).symm (na (qhp0_2_0.nb e15) not_nil))
   exact hDone (by kernel_rfl) ⟨rfl, h1203, p1226.z, s1230, s1231, s1232, s1233, sp1226, m1234, m1235, m1205, m1236, (q1204.mono ((Tr.refl _ _).sub (fun i h => (List.mem_cons.1 h).elim (fun e => e ▸ (.tail _ (List.mem_append_right _ (.head _)))) (fun h => (List.mem_cons.1 h).elim (fun e => e ▸ (.tail _ (List.mem_append_right _ (.tail _ (.head _))))) (fun h => (List.mem_cons.1 h).elim (fun e => e ▸ (.tail _ (List.mem_append_right _ (.tail _ (.tail _ (.head _)))))) (fun h => (List.mem_append.1 h).elim (fun h => (.tail _ (List.mem_append_right _ (.tail _ (.tail _ (.tail _ (List.mem_append_left _ h))))))) (fun h => (List.mem_cons.1 h).elim (fun e => e ▸ (.head _)) (fun h => (List.mem_append.1 h).elim (fun h => (.tail _ (List.mem_append_left _ h))) (fun h => (.tail _ (List.mem_append_right _ (.tail _ (.tail _ (.tail _ (List.mem_append_right _ h))))))))))))))), (q1227.sub (fun i h => (List.mem_cons.1 h).elim (fun e => e ▸ (.tail _ (List.mem_append_right _ (.head _)))) (fun h => (List.mem_cons.1 h).elim (fun e => e ▸ (.tail _ (List.mem_append_right _ (.tail _ (.head _))))) (fun h => (List.mem_cons.1 h).elim (fun e => e ▸ (.tail _ (List.mem_append_right _ (.tail _ (.tail _ (.head _)))))) (fun h => (List.mem_append.1 h).elim (fun h => (.tail _ (List.mem_append_right _ (.tail _ (.tail _ (.tail _ (List.mem_append_left _ h))))))) (fun h => (List.mem_cons.1 h).elim (fun e => e ▸ (.head _)) (fun h => (List.mem_append.1 h).elim (fun h => (.tail _ (List.mem_append_left _ h))) (fun h => (.tail _ (List.mem_append_right _ (.tail _ (.tail _ (.tail _ (List.mem_append_right _ h)))))))))))))), (q1206.sub (fun i h => (List.mem_cons.1 h).elim (fun e => e ▸ (.tail _ (List.mem_append_right _ (.head _)))) (fun h => (List.mem_cons.1 h).elim (fun e => e ▸ (.tail _ (List.mem_append_right _ (.tail _ (.head _))))) (fun h => (List.mem_cons.1 h).elim (fun e => e ▸ (.tail _ (List.mem_append_right _ (.tail _ (.tail _ (.head _)))))) (fun h => (List.mem_append.1 h).elim (fun h => (.tail _ (List.mem_append_right _ (.tail _ (.tail _ (.tail _ (List.mem_append_left _ h))))))) (fun h => (List.mem_cons.1 h).elim (fun e => e ▸ (.head _)) (fun h => (List.mem_append.1 h).elim (fun h => (.tail _ (List.mem_append_left _ h))) (fun h => (.tail _ (List.mem_append_right _ (.tail _ (.tail _ (.tail _ (List.mem_append_right _ h)))))))))))))), (q1228.sub (fun i h => (List.mem_cons.1 h).elim (fun e => e ▸ (.tail _ (List.mem_append_right _ (.head _)))) (fun h => (List.mem_cons.1 h).elim (fun e => e ▸ (.tail _ (List.mem_append_right _ (.tail _ (.head _))))) (fun h => (List.mem_cons.1 h).elim (fun e => e ▸ (.tail _ (List.mem_append_right _ (.tail _ (.tail _ (.head _)))))) (fun h => (List.mem_append.1 h).elim (fun h => (.tail _ (List.mem_append_right _ (.tail _ (.tail _ (.tail _ (List.mem_append_left _ h))))))) (fun h => (List.mem_cons.1 h).elim (fun e => e ▸ (.head _)) (fun h => (List.mem_append.1 h).elim (fun h => (.tail _ (List.mem_append_left _ h))) (fun h => (.tail _ (List.mem_append_right _ (.tail _ (.tail _ (.tail _ (List.mem_append_right _ h)))))))))))))), (q1229.sub (fun i h => (List.mem_cons.1 h).elim (fun e => e ▸ (.tail _ (List.mem_append_right _ (.head _)))) (fun h => (List.mem_cons.1 h).elim (fun e => e ▸ (.tail _ (List.mem_append_right _ (.tail _ (.head _))))) (fun h => (List.mem_cons.1 h).elim (fun e => e ▸ (.tail _ (List.mem_append_right _ (.tail _ (.tail _ (.head _)))))) (fun h => (List.mem_append.1 h).elim (fun h => (.tail _ (List.mem_append_right _ (.tail _ (.tail _ (.tail _ (List.mem_append_left _ h))))))) (fun h => (List.mem_cons.1 h).elim (fun e => e ▸ (.head _)) (fun h => (List.mem_append.1 h).elim (fun h => (.tail _ (List.mem_append_left _ h))) (fun h => (.tail _ (List.mem_append_right _ (.tail _ (.tail _ (.tail _ (List.mem_append_right _ h)))))))))))))), (cx1213.sub (fun i h => (List.mem_cons.1 h).elim (fun e => e ▸ (.tail _ (List.mem_append_right _ (.head _)))) (fun h => (List.mem_cons.1 h).elim (fun e => e ▸ (.tail _ (List.mem_append_right _ (.tail _ (.head _))))) (fun h => (List.mem_cons.1 h).elim (fun e => e ▸ (.tail _ (List.mem_append_right _ (.tail _ (.tail _ (.head _)))))) (fun h => (List.mem_append.1 h).elim (fun h => (.tail _ (List.mem_append_right _ (.tail _ (.tail _ (.tail _ (List.mem_append_left _ h))))))) (fun h => (List.mem_cons.1 h).elim (fun e => e ▸ (.head _)) (fun h => (List.mem_append.1 h).elim (fun h => (.tail _ (List.mem_append_left _ h))) (fun h => (.tail _ (List.mem_append_right _ (.tail _ (.tail _ (.tail _ (List.mem_append_right _ h)))))))))))))), ((g1172.t0.trans t1212).sub (fun i h => (List.mem_cons.1 h).elim (fun e => e ▸ (.tail _ (List.mem_append_right _ (.head _)))) (fun h => (List.mem_cons.1 h).elim (fun e => e ▸ (.tail _ (List.mem_append_right _ (.tail _ (.head _))))) (fun h => (List.mem_cons.1 h).elim (fun e => e ▸ (.tail _ (List.mem_append_right _ (.tail _ (.tail _ (.head _)))))) (fun h => (List.mem_append.1 h).elim (fun h => (.tail _ (List.mem_append_right _ (.tail _ (.tail _ (.tail _ (List.mem_append_left _ h))))))) (fun h => (List.mem_cons.1 h).elim (fun e => e ▸ (.head _)) (fun h => (List.mem_append.1 h).elim (fun h => (.tail _ (List.mem_append_left _ h))) (fun h => (.tail _ (List.mem_append_right _ (.tail _ (.tail _ (.tail _ (List.mem_append_right _ h))))))))))))))⟩
  rintro a1237 w1238 ⟨h1240, z1239, s1241, s1242, s1243, s1244, s1245, m1246, m1247, m1248, m1249, q1250, q1251, q1252, q1253, q1254, cx1255, t1256⟩
  refine thenN ?_
  refine wp_seq ?_
  refine regT 6 mixed (by kernel_rfl) ?_
  have g1257 := G.drew w1238
  have cx1258 := cx1255.ca g1257
  refine t1 z1239 (okMv s1241) rfl fun a1259 p1260 s1261 => ?_
  have s1262 := p1260.o s1242 rfl
  refine t1 p1260.z (okFA (o' := 1) fo40_1 s1262 rfl) rfl fun a1263 p1264 s1265 => ?_
  have m1266 := m1249.g0 g1257
  refine t1 p1264.z (okLd (j := 1) na3 s1265 (m1266.cl) rfl rfl) rfl fun a1267 p1268 s1269 => ?_
  have s1270 := p1268.o (p1264.o s1261 rfl) rfl
  refine t1 p1268.z (okNil s1270) rfl fun a1271 p1272 s1273 => ?_
  refine t1 p1272.z (okFA (o' := x2.toNat * 17 + 1) fo66_1 s1273 rfl) rfl fun a1274 p1275 s1276 => ?_
  have s1277 := p1275.o (p1272.o s1269 rfl) rfl
  by_cases hi1278 : 0 ≤ x1.a ∧ x1.a < 16
  case neg => rw [if_neg hi1278] at h; cases h
  replace h := (if_pos hi1278).symm.trans h
  refine t1 p1275.z (okIA Try.underlying64 Try.sizeOf2 s1276 s1277 hi1278) rfl fun a1279 p1280 s1281 => ?_
  refine tN ?_
  have q1282 := q1253.t0 g1257.t0 g1257
  obtain ⟨y1283, hy1284, h⟩ := Option.bind_eq_some_iff.1 h
  obtain ⟨b1285, cs1286, r1287, e1288, nb1289, k1290⟩ := q1282.at_ hy1284
  obtain rfl : bx2 = b1285 := own1 eb2 nb1289
  obtain rfl := r1287
  have m1294 := m1246.g0 g1257
  have m1295 := m1247.g0 g1257
  have m1296 := m1248.g0 g1257
  refine lS (oStoE (K := KTFrame) (e' := ({ y1283 with r := y1283.r.set x1.a 0 })) (vs := [.int .i64 0]) (j := 1 + x1.a.toNat) p1280.z s1281 cst q1282 hy1284 eb2 e1288 (fun _ h => (.tail _ (.tail _ (.tail _ (List.mem_append_right _ (.tail _ (List.mem_append_right _ (List.mem_append_left _ h)))))))) (Nat.add_assoc _ _ _).symm Try.sizeOf2 rfl one1 rfl (ble (by have := hi1278; show 1 + _ + 1 ≤ 17; omega)) (TFrame.C_r_set _ hi1278 _) rfl fun w1291 q1292 g1293 => ?_)
  have cx1297 := cx1258.cs g1293 (fun _ h => .inl (.tail _ (.tail _ (List.mem_append_right _ (.tail _ (List.mem_append_right _ (List.mem_append_left _ h)))))))
  refine rN (thenN ?_)
  refine wp_seq ?_
  refine wp_seq ?_
  refine reg ?_
  have s1298 := p1280.o (p1275.o (p1272.o (p1268.o (p1264.o (p1260.o s1244 rfl) rfl) rfl) rfl) rfl) rfl
  refine s1 p1280.z (okMv s1298) rfl fun a1299 p1300 s1301 => ?_
  refine rN (thenN ?_)
  have s1302 := p1300.o (p1280.o (p1275.o (p1272.o (p1268.o (p1264.o s1262 rfl) rfl) rfl) rfl) rfl) rfl
  have pg1303 : Pg _ [171, 172, 173, 174, 175, 176, 177] _ _ := ((((((((Pg.refl z1239).st p1260 rfl).st p1264 rfl).st p1268 rfl).st p1272 rfl).st p1275 rfl).st p1280 rfl).st p1300 rfl)
  refine cnd s1301 (fun hb1304 => ?_) (fun hb1304 => ?_)
  ·replace h := (ifP hb1304).symm.trans h
   refine regT 6 mixed (by kernel_rfl) ?_
   have g1305 := G.drew w1291
   have cx1306 := cx1297.ca g1305
   have s1307 := pg1303.o s1241 rfl
   refine t1 pg1303.z (okMv s1307) rfl fun a1308 p1309 s1310 => ?_
   have s1311 := p1309.o s1302 rfl
   refine t1 p1309.z (okFA (o' := 1) fo40_1 s1311 rfl) rfl fun a1312 p1313 s1314 => ?_
   have m1315 := (m1266.g g1293 (qhp0_3.nb e15)).g0 g1305
   refine t1 p1313.z (okLd (j := 1) na3 s1314 (m1315.cl) rfl rfl) rfl fun a1316 p1317 s1318 => ?_
   have s1319 := p1317.o (p1313.o s1310 rfl) rfl
   refine t1 p1317.z (okNil s1319) rfl fun a1320 p1321 s1322 => ?_
   refine t1 p1321.z (okFA (o' := x2.toNat * 17 + 1) fo66_1 s1322 rfl) rfl fun a1323 p1324 s1325 => ?_
   have s1326 := p1324.o (p1321.o s1318 rfl) rfl
   by_cases hi1327 : 0 ≤ x1.a ∧ x1.a < 16
   case neg => rw [if_neg hi1327] at h; cases h
   replace h := (if_pos hi1327).symm.trans h
   refine t1 p1324.z (okIA Try.underlying64 Try.sizeOf2 s1325 s1326 hi1327) rfl fun a1328 p1329 s1330 => ?_
   refine tN ?_
   have q1331 := q1292.t0 g1305.t0 g1305
   obtain ⟨b1332, cs1333, r1334, e1335, nb1336, k1337⟩ := q1331.at_ (ix_set hy1284)
   obtain rfl : bx2 = b1332 := own1 eb2 nb1336
   obtain rfl := r1334
   have m1341 := (m1294.g g1293 (D.bo (i := 0) (j := 5) rfl rfl rfl)).g0 g1305
   have m1342 := (m1295.g g1293 (D.bo (i := 1) (j := 5) rfl rfl rfl)).g0 g1305
   have m1343 := (m1296.g g1293 (D.bo (i := 3) (j := 5) rfl rfl rfl)).g0 g1305
   refine lS (oStoE (K := KTFrame) (e' := ({ y1283 with r := (y1283.r.set x1.a 0).set x1.a 1 })) (vs := [.int .i64 1]) (j := 1 + x1.a.toNat) p1329.z s1330 cst q1331 (ix_set hy1284) eb2 e1335 (fun _ h => (.tail _ (.tail _ (.tail _ (List.mem_append_right _ (.tail _ (List.mem_append_right _ (List.mem_append_left _ h)))))))) (Nat.add_assoc _ _ _).symm Try.sizeOf2 rfl one1 rfl (ble (by have := hi1327; show 1 + _ + 1 ≤ 17; omega)) (TFrame.C_r_set _ hi1327 _) rfl fun w1338 q1339 g1340 => ?_)
   have cx1344 := cx1306.cs g1340 (fun _ h => .inl (.tail _ (.tail _ (List.mem_append_right _ (.tail _ (List.mem_append_right _ (List.mem_append_left _ h)))))))
   refine rN (thenN ?_)
   refine wp_seq ?_
   refine reg ?_
   have s1345 := p1329.o (p1324.o (p1321.o (p1317.o (p1313.o (p1309.o (pg1303.o s1245 rfl) rfl) rfl) rfl) rfl) rfl) rfl
   refine s1 p1329.z (okMv s1345) rfl fun a1346 p1347 s1348 => ?_
   have q1349 := q1250.mono (((g1257.t0.trans (g1293.t (fun _ h => (.tail _ (.tail _ (.tail _ (List.mem_append_right _ (.tail _ (List.mem_append_right _ (List.mem_append_left _ h)))))))))).trans g1305.t0).trans (g1340.t (fun _ h => (.tail _ (.tail _ (.tail _ (List.mem_append_right _ (.tail _ (List.mem_append_right _ (List.mem_append_left _ h))))))))))
   refine s1 p1347.z (okEEqN ef33 s1348 q1349 _) rfl fun a1350 p1351 s1352 => ?_
   refine s1 p1351.z (okAs s1352) rfl fun a1353 p1354 s1355 => ?_
   refine rN (thenN ?_)
   obtain rfl := Option.some.inj h
   have m1356 := m1341.g g1340 (D.bo (i := 0) (j := 5) rfl rfl rfl)
   have q1357 := q1095.mono ((((t1256.trans g1257.t0).trans (g1293.t (fun _ h => (.tail _ (.tail _ (.tail _ (List.mem_append_right _ (.tail _ (List.mem_append_right _ (List.mem_append_left _ h)))))))))).trans g1305.t0).trans (g1340.t (fun _ h => (.tail _ (.tail _ (.tail _ (List.mem_append_right _ (.tail _ (List.mem_append_right _ (List.mem_append_left _ h))))))))))
   have m1358 := m1342.g g1340 (D.bo (i := 1) (j := 5) rfl rfl rfl)
   have q1359 := (((q1251.t0 g1257.t0 g1257).tr (g1293.t (fun _ h => (.tail _ (.tail _ (.tail _ (List.mem_append_right _ (.tail _ (List.mem_append_right _ (List.mem_append_left _ h))))))))) g1293 (D.dj (i := 2) (j := 5) rfl rfl rfl)).t0 g1305.t0 g1305).tr (g1340.t (fun _ h => (.tail _ (.tail _ (.tail _ (List.mem_append_right _ (.tail _ (List.mem_append_right _ (List.mem_append_left _ h))))))))) g1340 (D.dj (i := 2) (j := 5) rfl rfl rfl)
   have m1360 := m1343.g g1340 (D.bo (i := 3) (j := 5) rfl rfl rfl)
   have q1361 := (((q1252.t0 g1257.t0 g1257).tr (g1293.t (fun _ h => (.tail _ (.tail _ (.tail _ (List.mem_append_right _ (.tail _ (List.mem_append_right _ (List.mem_append_left _ h))))))))) g1293 (D.dj (i := 4) (j := 5) rfl rfl rfl)).t0 g1305.t0 g1305).tr (g1340.t (fun _ h => (.tail _ (.tail _ (.tail _ (List.mem_append_right _ (.tail _ (List.mem_append_right _ (List.mem_append_left _ h))))))))) g1340 (D.dj (i := 4) (j := 5) rfl rfl rfl)
   have q1362 := (((q1254.t0 g1257.t0 g1257).tr (g1293.t (fun _ h => (.tail _ (.tail _ (.tail _ (List.mem_append_right _ (.tail _ (List.mem_append_right _ (List.mem_append_left _ h))))))))) g1293 (djs (D.dj (i := 5) (j := 6) rfl rfl rfl))).t0 g1305.t0 g1305).tr (g1340.t (fun _ h => (.tail _ (.tail _ (.tail _ (List.mem_append_right _ (.tail _ (List.mem_append_right _ (List.mem_append_left _ h))))))))) g1340 (djs (D.dj (i := 5) (j := 6) rfl rfl rfl))
   exact wp_ret (blkR (thenR (ret1 p1354.z Try.results37 (rvT s1355) ⟨_, rfl, hp0_1_0, hp0_4, rfl, m1356, (q1357.mono ((Tr.refl _ _).sub (fun i h => (.tail _ h)))), m1358, (q1359.sub (fun i h => (.tail _ h))), m1360, (q1361.sub (fun i h => (.tail _ h))), (q1339.sub (fun i h => (.tail _ h))), (q1362.sub (fun i h => (.tail _ h))), (sepC (show ∀ x ∈ [ob0], x ∉ (ob0_1 :: (ownB hp0_1_0 ++ (ob0_2 :: (ownB hp0_2_0 ++ (ownB hp0_3 ++ (ownB hp0_4 ++ L)))))) from (in1 (nc (D.bb (i := 0) (j := 1) rfl rfl rfl) (na (D.bo (i := 0) (j := 2) rfl rfl rfl) (nc (D.bb (i := 0) (j := 3) rfl rfl rfl) (na (D.bo (i := 0) (j := 4) rfl rfl rfl) (na (D.bo (i := 0) (j := 5) rfl rfl rfl) (na (D.bo (i := 0) (j := 6) rfl rfl rfl) (D.bl (i := 0) rfl))))))))) (sepC (show ∀ x ∈ [ob0_1], x ∉ (ownB hp0_1_0 ++ (ob0_2 :: (ownB hp0_2_0 ++ (ownB hp0_3 ++ (ownB hp0_4 ++ L))))) from (in1 (na (D.bo (i := 1) (j := 2) rfl rfl rfl) (nc (D.bb (i := 1) (j := 3) rfl rfl rfl) (na (D.bo (i := 1) (j := 4) rfl rfl rfl) (na (D.bo (i := 1) (j := 5) rfl rfl rfl) (na (D.bo (i := 1) (j := 6) rfl rfl rfl) (D.bl (i := 1) rfl)))))))) (sepC (show ∀ x ∈ ownB hp0_1_0, x ∉ (ob0_2 :: (ownB hp0_2_0 ++ (ownB hp0_3 ++ (ownB hp0_4 ++ L)))) from (fun x hx => (nc (nbo (D.ob (i := 2) (j := 3) rfl rfl rfl) hx) (na ((D.dj (i := 2) (j := 4) rfl rfl rfl) x hx) (na ((D.dj (i := 2) (j := 5) rfl rfl rfl) x hx) (na ((D.dj (i := 2) (j := 6) rfl rfl rfl) x hx) ((D.dl (i := 2) rfl) x hx))))))) (sepC (show ∀ x ∈ [ob0_2], x ∉ (ownB hp0_2_0 ++ (ownB hp0_3 ++ (ownB hp0_4 ++ L))) from (in1 (na (D.bo (i := 3) (j := 4) rfl rfl rfl) (na (D.bo (i := 3) (j := 5) rfl rfl rfl) (na (D.bo (i := 3) (j := 6) rfl rfl rfl) (D.bl (i := 3) rfl)))))) (sepC (show ∀ x ∈ ownB hp0_2_0, x ∉ (ownB hp0_3 ++ (ownB hp0_4 ++ L)) from (fun x hx => (na ((D.dj (i := 4) (j := 5) rfl rfl rfl) x hx) (na ((D.dj (i := 4) (j := 6) rfl rfl rfl) x hx) ((D.dl (i := 4) rfl) x hx))))) (sepC (show ∀ x ∈ ownB hp0_3, x ∉ (ownB hp0_4 ++ L) from (fun x hx => (na ((D.dj (i := 5) (j := 6) rfl rfl rfl) x hx) ((D.dl (i := 5) rfl) x hx)))) (sepC (show ∀ x ∈ ownB hp0_4, x ∉ L from (fun x hx => ((D.dl (i := 6) rfl) x hx))) sepN))))))), (fun _ h => .inl (.tail _ (.tail _ (List.mem_append_left _ h)))), (fun _ h => .inl (.tail _ (.tail _ (List.mem_append_right _ (.tail _ (List.mem_append_right _ (List.mem_append_right _ (List.mem_append_left _ h)))))))), (show ∀ b ∈ (ob0 :: (ob0_1 :: (ownB hp0_1_0 ++ (ob0_2 :: (ownB hp0_2_0 ++ (ownB hp0_3 ++ (ownB hp0_4 ++ L))))))), b < w1338.heap.size from (fun i h => cx1344.lt i (.tail _ h))), cx1344.g⟩)))
  replace h := (ifN hb1304).symm.trans h
  refine wp_skip (thenN ?_)
  refine wp_seq ?_
  refine reg ?_
  have s1363 := pg1303.o s1245 rfl
  refine s1 pg1303.z (okMv s1363) rfl fun a1364 p1365 s1366 => ?_
  have q1367 := q1250.mono (g1257.t0.trans (g1293.t (fun _ h => (.tail _ (.tail _ (.tail _ (List.mem_append_right _ (.tail _ (List.mem_append_right _ (List.mem_append_left _ h))))))))))
  refine s1 p1365.z (okEEqN ef33 s1366 q1367 _) rfl fun a1368 p1369 s1370 => ?_
  refine s1 p1369.z (okAs s1370) rfl fun a1371 p1372 s1373 => ?_
  refine rN (thenN ?_)
  obtain rfl := Option.some.inj h
  have m1374 := m1294.g g1293 (D.bo (i := 0) (j := 5) rfl rfl rfl)
  have q1375 := q1095.mono ((t1256.trans g1257.t0).trans (g1293.t (fun _ h => (.tail _ (.tail _ (.tail _ (List.mem_append_right _ (.tail _ (List.mem_append_right _ (List.mem_append_left _ h))))))))))
  have m1376 := m1295.g g1293 (D.bo (i := 1) (j := 5) rfl rfl rfl)
  have q1377 := (q1251.t0 g1257.t0 g1257).tr (g1293.t (fun _ h => (.tail _ (.tail _ (.tail _ (List.mem_append_right _ (.tail _ (List.mem_append_right _ (List.mem_append_left _ h))))))))) g1293 (D.dj (i := 2) (j := 5) rfl rfl rfl)
  have m1378 := m1296.g g1293 (D.bo (i := 3) (j := 5) rfl rfl rfl)
  have q1379 := (q1252.t0 g1257.t0 g1257).tr (g1293.t (fun _ h => (.tail _ (.tail _ (.tail _ (List.mem_append_right _ (.tail _ (List.mem_append_right _ (List.mem_append_left _ h))))))))) g1293 (D.dj (i := 4) (j := 5) rfl rfl rfl)
  have q1380 := (q1254.t0 g1257.t0 g1257).tr (g1293.t (fun _ h => (.tail _ (.tail _ (.tail _ (List.mem_append_right _ (.tail _ (List.mem_append_right _ (List.mem_append_left _ h))))))))) g1293 (djs (D.dj (i := 5) (j := 6) rfl rfl rfl))
  exact wp_ret (blkR (thenR (ret1 p1372.z Try.results37 (rvT s1373) ⟨_, rfl, hp0_1_0, hp0_4, rfl, m1374, (q1375.mono ((Tr.refl _ _).sub (fun i h => (.tail _ h)))), m1376, (q1377.sub (fun i h => (.tail _ h))), m1378, (q1379.sub (fun i h => (.tail _ h))), (q1292.sub (fun i h => (.tail _ h))), (q1380.sub (fun i h => (.tail _ h))), (sepC (show ∀ x ∈ [ob0], x ∉ (ob0_1 :: (ownB hp0_1_0 ++ (ob0_2 :: (ownB hp0_2_0 ++ (ownB hp0_3 ++ (ownB hp0_4 ++ L)))))) from (in1 (nc (D.bb (i := 0) (j := 1) rfl rfl rfl) (na (D.bo (i := 0) (j := 2) rfl rfl rfl) (nc (D.bb (i := 0) (j := 3) rfl rfl rfl) (na (D.bo (i := 0) (j := 4) rfl rfl rfl) (na (D.bo (i := 0) (j := 5) rfl rfl rfl) (na (D.bo (i := 0) (j := 6) rfl rfl rfl) (D.bl (i := 0) rfl))))))))) (sepC (show ∀ x ∈ [ob0_1], x ∉ (ownB hp0_1_0 ++ (ob0_2 :: (ownB hp0_2_0 ++ (ownB hp0_3 ++ (ownB hp0_4 ++ L))))) from (in1 (na (D.bo (i := 1) (j := 2) rfl rfl rfl) (nc (D.bb (i := 1) (j := 3) rfl rfl rfl) (na (D.bo (i := 1) (j := 4) rfl rfl rfl) (na (D.bo (i := 1) (j := 5) rfl rfl rfl) (na (D.bo (i := 1) (j := 6) rfl rfl rfl) (D.bl (i := 1) rfl)))))))) (sepC (show ∀ x ∈ ownB hp0_1_0, x ∉ (ob0_2 :: (ownB hp0_2_0 ++ (ownB hp0_3 ++ (ownB hp0_4 ++ L)))) from (fun x hx => (nc (nbo (D.ob (i := 2) (j := 3) rfl rfl rfl) hx) (na ((D.dj (i := 2) (j := 4) rfl rfl rfl) x hx) (na ((D.dj (i := 2) (j := 5) rfl rfl rfl) x hx) (na ((D.dj (i := 2) (j := 6) rfl rfl rfl) x hx) ((D.dl (i := 2) rfl) x hx))))))) (sepC (show ∀ x ∈ [ob0_2], x ∉ (ownB hp0_2_0 ++ (ownB hp0_3 ++ (ownB hp0_4 ++ L))) from (in1 (na (D.bo (i := 3) (j := 4) rfl rfl rfl) (na (D.bo (i := 3) (j := 5) rfl rfl rfl) (na (D.bo (i := 3) (j := 6) rfl rfl rfl) (D.bl (i := 3) rfl)))))) (sepC (show ∀ x ∈ ownB hp0_2_0, x ∉ (ownB hp0_3 ++ (ownB hp0_4 ++ L)) from (fun x hx => (na ((D.dj (i := 4) (j := 5) rfl rfl rfl) x hx) (na ((D.dj (i := 4) (j := 6) rfl rfl rfl) x hx) ((D.dl (i := 4) rfl) x hx))))) (sepC (show ∀ x ∈ ownB hp0_3, x ∉ (ownB hp0_4 ++ L) from (fun x hx => (na ((D.dj (i := 5) (j := 6) rfl rfl rfl) x hx) ((D.dl (i := 5) rfl) x hx)))) (sepC (show ∀ x ∈ ownB hp0_4, x ∉ L from (fun x hx => ((D.dl (i := 6) rfl) x hx))) sepN))))))), (fun _ h => .inl (.tail _ (.tail _ (List.mem_append_left _ h)))), (fun _ h => .inl (.tail _ (.tail _ (List.mem_append_right _ (.tail _ (List.mem_append_right _ (List.mem_append_right _ (List.mem_append_left _ h)))))))), (show ∀ b ∈ (ob0 :: (ob0_1 :: (ownB hp0_1_0 ++ (ob0_2 :: (ownB hp0_2_0 ++ (ownB hp0_3 ++ (ownB hp0_4 ++ L))))))), b < w1291.heap.size from (fun i h => cx1297.lt i (.tail _ h))), cx1297.g⟩)))
 replace h := (ifN hb1094).symm.trans h
 refine wp_seq ?_
 refine reg ?_
 refine s1 pg1093.z (okEq s1092 cst) rfl fun a1381 p1382 s1383 => ?_
 refine s1 p1382.z (okAs s1383) rfl fun a1384 p1385 s1386 => ?_
 refine rN (thenN ?_)
 refine cnd s1386 (fun hb1387 => ?_) (fun hb1387 => ?_)
 ·replace h := (ifP hb1387).symm.trans h
  refine wp_seq ?_
  refine regT 8 mixed (by kernel_rfl) ?_
  have g1388 := G.drew w10
  have cx1389 := cx16.ca g1388
  have s1390 := p1385.o (p1382.o (pg1093.o (pg867.o (pg381.o (pg179.o (pg37.o s0_0 rfl) rfl) rfl) rfl) rfl) rfl) rfl
  refine t1 p1385.z (okMv s1390) rfl fun a1391 p1392 s1393 => ?_
  refine t1 p1392.z (okNil s1393) rfl fun a1394 p1395 s1396 => ?_
  refine t1 p1395.z (okFA (o' := 2) fo68_2 s1396 rfl) rfl fun a1397 p1398 s1399 => ?_
  have m1400 := (mob0.g0 g14).g0 g1388
  refine t1 p1398.z (okLd (j := 2) na25 s1399 (m1400.cl) rfl rfl) rfl fun a1401 p1402 s1403 => ?_
  have s1404 := p1402.o (p1398.o (p1395.o (p1392.o s1390 rfl) rfl) rfl) rfl
  refine t1 p1402.z (okMv s1404) rfl fun a1405 p1406 s1407 => ?_
  refine t1 p1406.z (okNil s1407) rfl fun a1408 p1409 s1410 => ?_
  refine t1 p1409.z (okFA (o' := 3) fo68_3 s1410 rfl) rfl fun a1411 p1412 s1413 => ?_
  refine t1 p1412.z (okLd (j := 3) na3 s1413 (m1400.cl) rfl rfl) rfl fun a1414 p1415 s1416 => ?_
  refine tN ?_
  have s1417 := p1415.o (p1412.o (p1409.o (p1406.o s1403 rfl) rfl) rfl) rfl
  have m1418 := (mob0_2.g0 g14).g0 g1388
  have q1419 := (qhp0_2_0.t0 (g14.tA (Nat.le_of_eq e15.symm)) g14).t0 g1388.t0 g1388
  have m1420 := (mob0_1.g0 g14).g0 g1388
  have m1421 := m13.g0 g1388
  obtain ⟨t1422, ht1423, h⟩ := Option.bind_eq_some_iff.1 h
  refine lS (oCall p1415.z Try.call43 (ag2 s1417 s1416) (c43 (b11 :: (ob0 :: (ob0_1 :: (ownB hp0_1_0 ++ (ownB hp0_3 ++ (ownB hp0_4 ++ L)))))) w10.drew x0.t ob0_2 hp0_2_0 x0.i (fun i h => cx1389.lt i ((List.mem_cons.1 h).elim (fun e => e ▸ (.tail _ (.tail _ (.tail _ (List.mem_append_right _ (.head _)))))) (fun h => (List.mem_append.1 h).elim (fun h => (.tail _ (.tail _ (.tail _ (List.mem_append_right _ (.tail _ (List.mem_append_left _ h))))))) (fun h => (List.mem_cons.1 h).elim (fun e => e ▸ (.head _)) (fun h => (List.mem_cons.1 h).elim (fun e => e ▸ (.tail _ (.head _))) (fun h => (List.mem_cons.1 h).elim (fun e => e ▸ (.tail _ (.tail _ (.head _)))) (fun h => (List.mem_append.1 h).elim (fun h => (.tail _ (.tail _ (.tail _ (List.mem_append_left _ h))))) (fun h => (.tail _ (.tail _ (.tail _ (List.mem_append_right _ (.tail _ (List.mem_append_right _ h)))))))))))))) (sepC (show ∀ x ∈ [ob0_2], x ∉ (ownB hp0_2_0 ++ (b11 :: (ob0 :: (ob0_1 :: (ownB hp0_1_0 ++ (ownB hp0_3 ++ (ownB hp0_4 ++ L))))))) from (in1 (na (D.bo (i := 3) (j := 4) rfl rfl rfl) (nc (mob0_2.ne e15) (nc (D.bb (i := 0) (j := 3) rfl rfl rfl).symm (nc (D.bb (i := 1) (j := 3) rfl rfl rfl).symm (na (D.ob (i := 2) (j := 3) rfl rfl rfl) (na (D.bo (i := 3) (j := 5) rfl rfl rfl) (na (D.bo (i := 3) (j := 6) rfl rfl rfl) (D.bl (i := 3) rfl)))))))))) (sepC (show ∀ x ∈ ownB hp0_2_0, x ∉ (b11 :: (ob0 :: (ob0_1 :: (ownB hp0_1_0 ++ (ownB hp0_3 ++ (ownB hp0_4 ++ L)))))) from (fun x hx => (nc (nbo (qhp0_2_0.nb e15) hx) (nc (nbo (D.bo (i := 0) (j := 4) rfl rfl rfl) hx) (nc (nbo (D.bo (i := 1) (j := 4) rfl rfl rfl) hx) (na ((djs (D.dj (i := 2) (j := 4) rfl rfl rfl)) x hx) (na ((D.dj (i := 4) (j := 5) rfl rfl rfl) x hx) (na ((D.dj (i := 4) (j := 6) rfl rfl rfl) x hx) ((D.dl (i := 4) rfl) x hx))))))))) sepN)) m1418 (q1419.sub (fun i h => (List.mem_cons.1 h).elim (fun e => e ▸ (.tail _ (.tail _ (.tail _ (List.mem_append_right _ (.head _)))))) (fun h => (List.mem_append.1 h).elim (fun h => (.tail _ (.tail _ (.tail _ (List.mem_append_right _ (.tail _ (List.mem_append_left _ h))))))) (fun h => (List.mem_cons.1 h).elim (fun e => e ▸ (.head _)) (fun h => (List.mem_cons.1 h).elim (fun e => e ▸ (.tail _ (.head _))) (fun h => (List.mem_cons.1 h).elim (fun e => e ▸ (.tail _ (.tail _ (.head _)))) (fun h => (List.mem_append.1 h).elim (fun h => (.tail _ (.tail _ (.tail _ (List.mem_append_left _ h))))) (fun h => (.tail _ (.tail _ (.tail _ (List.mem_append_right _ (.tail _ (List.mem_append_right _ h)))))))))))))) _ ht1423) rfl fun v1427 a1424 w1425 hp1428 p1426 sp1426 => ?_)
  obtain ⟨h1429, rfl, q1430, m1431, q1432, D1433, lt1434, g1435⟩ := hp1428
  have hs1436 : ∀ i ∈ (ob0_2 :: (ownB hp0_2_0 ++ [])), i ∈ (ob0 :: (ob0_1 :: (ownB hp0_1_0 ++ (ob0_2 :: (ownB hp0_2_0 ++ (ownB hp0_3 ++ (ownB hp0_4 ++ []))))))) ∨ w.heap.size ≤ i := (memC (.inl (.tail _ (.tail _ (List.mem_append_right _ (.head _))))) (memA (fun _ h => .inl (.tail _ (.tail _ (List.mem_append_right _ (.tail _ (List.mem_append_left _ h)))))) memN))
  have hs1437 : ∀ i ∈ (ob0_2 :: (ownB hp0_2_0 ++ [])), i ∈ (b11 :: (ob0 :: (ob0_1 :: (ownB hp0_1_0 ++ (ob0_2 :: (ownB hp0_2_0 ++ (ownB hp0_3 ++ (ownB hp0_4 ++ L)))))))) := (memC (.tail _ (.tail _ (.tail _ (List.mem_append_right _ (.head _))))) (memA (fun _ h => (.tail _ (.tail _ (.tail _ (List.mem_append_right _ (.tail _ (List.mem_append_left _ h))))))) memN))
  have t1438 : Tr (b11 :: (ob0 :: (ob0_1 :: (ownB hp0_1_0 ++ (ob0_2 :: (ownB hp0_2_0 ++ (ownB hp0_3 ++ (ownB hp0_4 ++ L)))))))) w10.drew (ob0_2 :: (ownB hp0_2_0 ++ (b11 :: (ob0 :: (ob0_1 :: (ownB hp0_1_0 ++ (ownB hp0_3 ++ (ownB hp0_4 ++ L)))))))) w1425 := G.tC g1435 hs1437 (memC (.inl (.tail _ (.tail _ (.tail _ (List.mem_append_right _ (.head _)))))) (memA (fun _ h => .inl (.tail _ (.tail _ (.tail _ (List.mem_append_right _ (.tail _ (List.mem_append_left _ h))))))) (fun i h => .inl ((List.mem_cons.1 h).elim (fun e => e ▸ (.head _)) (fun h => (List.mem_cons.1 h).elim (fun e => e ▸ (.tail _ (.head _))) (fun h => (List.mem_cons.1 h).elim (fun e => e ▸ (.tail _ (.tail _ (.head _)))) (fun h => (List.mem_append.1 h).elim (fun h => (.tail _ (.tail _ (.tail _ (List.mem_append_left _ h))))) (fun h => (.tail _ (.tail _ (.tail _ (List.mem_append_right _ (.tail _ (List.mem_append_right _ h))))))))))))))
  have cx1439 := cx1389.gs g1435 hs1436 lt1434
  refine s1 p1426.z (okEEqN ef33 sp1426 q1430 _) rfl fun a1440 p1441 s1442 => ?_
  refine s1 p1441.z (okAs s1442) rfl fun a1443 p1444 s1445 => ?_
  refine rN (thenN ?_)
  obtain rfl := Option.some.inj h
  have m1446 := m1400.g g1435 (nc (D.bb (i := 0) (j := 3) rfl rfl rfl) (na (D.bo (i := 0) (j := 4) rfl rfl rfl) not_nil))
  have q1447 := qhp0_0.mono (((g14.tA (Nat.le_of_eq e15.symm)).trans g1388.t0).trans t1438)
  have m1448 := m1420.g g1435 (nc (D.bb (i := 1) (j := 3) rfl rfl rfl) (na (D.bo (i := 1) (j := 4) rfl rfl rfl) not_nil))
  have q1449 := ((qhp0_1_0.t0 (g14.tA (Nat.le_of_eq e15.symm)) g14).t0 g1388.t0 g1388).tr t1438 g1435 (fun x hx => (nc (nbo (D.ob (i := 2) (j := 3) rfl rfl rfl) hx) (na ((D.dj (i := 2) (j := 4) rfl rfl rfl) x hx) not_nil)))
  have q1450 := ((qhp0_3.t0 (g14.tA (Nat.le_of_eq e15.symm)) g14).t0 g1388.t0 g1388).tr t1438 g1435 (fun x hx => (nc (nbo (D.bo (i := 3) (j := 5) rfl rfl rfl) hx) (na ((djs (D.dj (i := 4) (j := 5) rfl rfl rfl)) x hx) not_nil)))
  have q1451 := ((qhp0_4.t0 (g14.tA (Nat.le_of_eq e15.symm)) g14).t0 g1388.t0 g1388).tr t1438 g1435 (fun x hx => (nc (nbo (D.bo (i := 3) (j := 6) rfl rfl rfl) hx) (na ((djs (D.dj (i := 4) (j := 6) rfl rfl rfl)) x hx) not_nil)))
  exact wp_ret (blkR (thenR (ret1 p1444.z Try.results37 (rvT s1445) ⟨_, rfl, hp0_1_0, hp0_4, rfl, m1446, (q1447.mono ((Tr.refl _ _).sub (fun i h => (List.mem_cons.1 h).elim (fun e => e ▸ (.tail _ (List.mem_append_right _ (.tail _ (.head _))))) (fun h => (List.mem_cons.1 h).elim (fun e => e ▸ (.tail _ (List.mem_append_right _ (.tail _ (.tail _ (.head _)))))) (fun h => (List.mem_append.1 h).elim (fun h => (.tail _ (List.mem_append_right _ (.tail _ (.tail _ (.tail _ (List.mem_append_left _ h))))))) (fun h => (List.mem_cons.1 h).elim (fun e => e ▸ (.head _)) (fun h => (List.mem_append.1 h).elim (fun h => (.tail _ (List.mem_append_left _ h))) (fun h => (.tail _ (List.mem_append_right _ (.tail _ (.tail _ (.tail _ (List.mem_append_right _ h)))))))))))))), m1448, (q1449.sub (fun i h => (List.mem_cons.1 h).elim (fun e => e ▸ (.tail _ (List.mem_append_right _ (.tail _ (.head _))))) (fun h => (List.mem_cons.1 h).elim (fun e => e ▸ (.tail _ (List.mem_append_right _ (.tail _ (.tail _ (.head _)))))) (fun h => (List.mem_append.1 h).elim (fun h => (.tail _ (List.mem_append_right _ (.tail _ (.tail _ (.tail _ (List.mem_append_left _ h))))))) (fun h => (List.mem_cons.1 h).elim (fun e => e ▸ (.head _)) (fun h => (List.mem_append.1 h).elim (fun h => (.tail _ (List.mem_append_left _ h))) (fun h => (.tail _ (List.mem_append_right _ (.tail _ (.tail _ (.tail _ (List.mem_append_right _ h))))))))))))), m1431, (q1432.sub (fun i h => (List.mem_cons.1 h).elim (fun e => e ▸ (.tail _ (List.mem_append_right _ (.tail _ (.head _))))) (fun h => (List.mem_cons.1 h).elim (fun e => e ▸ (.tail _ (List.mem_append_right _ (.tail _ (.tail _ (.head _)))))) (fun h => (List.mem_append.1 h).elim (fun h => (.tail _ (List.mem_append_right _ (.tail _ (.tail _ (.tail _ (List.mem_append_left _ h))))))) (fun h => (List.mem_cons.1 h).elim (fun e => e ▸ (.head _)) (fun h => (List.mem_append.1 h).elim (fun h => (.tail _ (List.mem_append_left _ h))) (fun h => (.tail _ (List.mem_append_right _ (.tail _ (.tail _ (.tail _ (List.mem_append_right _ h))))))))))))), (q1450.sub (fun i h => (List.mem_cons.1 h).elim (fun e => e ▸ (.tail _ (List.mem_append_right _ (.tail _ (.head _))))) (fun h => (List.mem_cons.1 h).elim (fun e => e ▸ (.tail _ (List.mem_append_right _ (.tail _ (.tail _ (.head _)))))) (fun h => (List.mem_append.1 h).elim (fun h => (.tail _ (List.mem_append_right _ (.tail _ (.tail _ (.tail _ (List.mem_append_left _ h))))))) (fun h => (List.mem_cons.1 h).elim (fun e => e ▸ (.head _)) (fun h => (List.mem_append.1 h).elim (fun h => (.tail _ (List.mem_append_left _ h))) (fun h => (.tail _ (List.mem_append_right _ (.tail _ (.tail _ (.tail _ (List.mem_append_right _ h))))))))))))), (q1451.sub (fun i h => (List.mem_cons.1 h).elim (fun e => e ▸ (.tail _ (List.mem_append_right _ (.tail _ (.head _))))) (fun h => (List.mem_cons.1 h).elim (fun e => e ▸ (.tail _ (List.mem_append_right _ (.tail _ (.tail _ (.head _)))))) (fun h => (List.mem_append.1 h).elim (fun h => (.tail _ (List.mem_append_right _ (.tail _ (.tail _ (.tail _ (List.mem_append_left _ h))))))) (fun h => (List.mem_cons.1 h).elim (fun e => e ▸ (.head _)) (fun h => (List.mem_append.1 h).elim (fun h => (.tail _ (List.mem_append_left _ h))) (fun h => (.tail _ (List.mem_append_right _ (.tail _ (.tail _ (.tail _ (List.mem_append_right _ h))))))))))))), (sepC (show ∀ x ∈ [ob0], x ∉ (ob0_1 :: (ownB hp0_1_0 ++ (ob0_2 :: (ownB hp0_2_0 ++ (ownB hp0_3 ++ (ownB hp0_4 ++ L)))))) from (in1 (nc (D.bb (i := 0) (j := 1) rfl rfl rfl) (na (D.bo (i := 0) (j := 2) rfl rfl rfl) (nc (D.bb (i := 0) (j := 3) rfl rfl rfl) (na (D.bo (i := 0) (j := 4) rfl rfl rfl) (na (D.bo (i := 0) (j := 5) rfl rfl rfl) (na (D.bo (i := 0) (j := 6) rfl rfl rfl) (D.bl (i := 0) rfl))))))))) (sepC (show ∀ x ∈ [ob0_1], x ∉ (ownB hp0_1_0 ++ (ob0_2 :: (ownB hp0_2_0 ++ (ownB hp0_3 ++ (ownB hp0_4 ++ L))))) from (in1 (na (D.bo (i := 1) (j := 2) rfl rfl rfl) (nc (D.bb (i := 1) (j := 3) rfl rfl rfl) (na (D.bo (i := 1) (j := 4) rfl rfl rfl) (na (D.bo (i := 1) (j := 5) rfl rfl rfl) (na (D.bo (i := 1) (j := 6) rfl rfl rfl) (D.bl (i := 1) rfl)))))))) (sepC (show ∀ x ∈ ownB hp0_1_0, x ∉ (ob0_2 :: (ownB hp0_2_0 ++ (ownB hp0_3 ++ (ownB hp0_4 ++ L)))) from (fun x hx => (nc (nbo (D.ob (i := 2) (j := 3) rfl rfl rfl) hx) (na ((D.dj (i := 2) (j := 4) rfl rfl rfl) x hx) (na ((D.dj (i := 2) (j := 5) rfl rfl rfl) x hx) (na ((D.dj (i := 2) (j := 6) rfl rfl rfl) x hx) ((D.dl (i := 2) rfl) x hx))))))) (sepC (show ∀ x ∈ [ob0_2], x ∉ (ownB hp0_2_0 ++ (ownB hp0_3 ++ (ownB hp0_4 ++ L))) from (in1 (na (D.bo (i := 3) (j := 4) rfl rfl rfl) (na (D.bo (i := 3) (j := 5) rfl rfl rfl) (na (D.bo (i := 3) (j := 6) rfl rfl rfl) (D.bl (i := 3) rfl)))))) (sepC (show ∀ x ∈ ownB hp0_2_0, x ∉ (ownB hp0_3 ++ (ownB hp0_4 ++ L)) from (fun x hx => (na ((D.dj (i := 4) (j := 5) rfl rfl rfl) x hx) (na ((D.dj (i := 4) (j := 6) rfl rfl rfl) x hx) ((D.dl (i := 4) rfl) x hx))))) (sepC (show ∀ x ∈ ownB hp0_3, x ∉ (ownB hp0_4 ++ L) from (fun x hx => (na ((D.dj (i := 5) (j := 6) rfl rfl rfl) x hx) ((D.dl (i := 5) rfl) x hx)))) (sepC (show ∀ x ∈ ownB hp0_4, x ∉ L from (fun x hx => ((D.dl (i := 6) rfl) x hx))) sepN))))))), (fun _ h => .inl (.tail _ (.tail _ (List.mem_append_left _ h)))), (fun _ h => .inl (.tail _ (.tail _ (List.mem_append_right _ (.tail _ (List.mem_append_right _ (List.mem_append_right _ (List.mem_append_left _ h)))))))), (show ∀ b ∈ (ob0 :: (ob0_1 :: (ownB hp0_1_0 ++ (ob0_2 :: (ownB hp0_2_0 ++ (ownB hp0_3 ++ (ownB hp0_4 ++ L))))))), b < w1425.heap.size from (fun i h => cx1439.lt i ((List.mem_cons.1 h).elim (fun e => e ▸ (.tail _ (List.mem_append_right _ (.tail _ (.head _))))) (fun h => (List.mem_cons.1 h).elim (fun e => e ▸ (.tail _ (List.mem_append_right _ (.tail _ (.tail _ (.head _)))))) (fun h => (List.mem_append.1 h).elim (fun h => (.tail _ (List.mem_append_right _ (.tail _ (.tail _ (.tail _ (List.mem_append_left _ h))))))) (fun h => (List.mem_cons.1 h).elim (fun e => e ▸ (.head _)) (fun h => (List.mem_append.1 h).elim (fun h => (.tail _ (List.mem_append_left _ h))) (fun h => (.tail _ (List.mem_append_right _ (.tail _ (.tail _ (.tail _ (List.mem_append_right _ h)))))))))))))), cx1439.g⟩)))
 replace h := (ifN hb1387).symm.trans h
 refine wp_seq ?_
 refine reg ?_
 have s1452 := p1385.o (p1382.o s1092 rfl) rfl
 refine s1 p1385.z (okEq s1452 cst) rfl fun a1453 p1454 s1455 => ?_
 refine s1 p1454.z (okAs s1455) rfl fun a1456 p1457 s1458 => ?_
 refine rN (thenN ?_)
 have pg1459 : Pg _ [186, 187, 198, 199] _ _ := (((((Pg.refl pg1093.z).st p1382 rfl).st p1385 rfl).st p1454 rfl).st p1457 rfl)
 refine cnd s1458 (fun hb1460 => ?_) (fun hb1460 => ?_)
 ·replace h := (ifP hb1460).symm.trans h
  have q1461 := qhp0_0.mono (g14.tA (Nat.le_of_eq e15.symm))
  have q1462 := qhp0_1_0.t0 (g14.tA (Nat.le_of_eq e15.symm)) g14
  have q1463 := qhp0_2_0.t0 (g14.tA (Nat.le_of_eq e15.symm)) g14
  have q1464 := qhp0_3.t0 (g14.tA (Nat.le_of_eq e15.symm)) g14
  have q1465 := qhp0_4.t0 (g14.tA (Nat.le_of_eq e15.symm)) g14
  by_cases hi1510 : 0 ≤ x1.a ∧ x1.a < 16
  case neg => rw [if_neg hi1510] at h; cases h
  replace h := (if_pos hi1510).symm.trans h
  obtain ⟨z1544, hz1545, h⟩ := Option.bind_eq_some_iff.1 h
  have s1587 := pg1459.o (pg1093.o (pg867.o (pg381.o (pg179.o s35 rfl) rfl) rfl) rfl) rfl
  have m1588 := mob0.g0 g14
  have m1589 := mob0_1.g0 g14
  have m1590 := mob0_2.g0 g14
  refine regJ (fun a' w' => ∃ v1555, Z Try.f37.ntmps a' ∧ a'.eval (.tmp 6) = .bool false ∧ Bk w' ob0 (Tmicro_machine.C ({ x0 with a := default, t := default, notes := z1544 }) hp0_0 (ptr ob0_1 0) (ptr ob0_2 0) hp0_3 v1555) 68 ∧ Bk w' ob0_1 (Tcell_Arena.C x0.a hp0_1_0) 72 ∧ Bk w' ob0_2 (Tpermit_Table.C x0.t hp0_2_0) 78 ∧ Bk w' b11 (TIns.C x1) 40 ∧ OwnS KTNote 80 (ownB v1555 ++ (b11 :: (ob0 :: (ob0_1 :: (ownB hp0_1_0 ++ (ob0_2 :: (ownB hp0_2_0 ++ (ownB hp0_3 ++ L)))))))) w' v1555 z1544 ∧ OwnS (KInt .i64) 2 (ownB v1555 ++ (b11 :: (ob0 :: (ob0_1 :: (ownB hp0_1_0 ++ (ob0_2 :: (ownB hp0_2_0 ++ (ownB hp0_3 ++ L)))))))) w' hp0_1_0 x0.a.l ∧ OwnS KTPark 59 (ownB v1555 ++ (b11 :: (ob0 :: (ob0_1 :: (ownB hp0_1_0 ++ (ob0_2 :: (ownB hp0_2_0 ++ (ownB hp0_3 ++ L)))))))) w' hp0_2_0 x0.t.l ∧ OwnS KTFrame 66 (ownB v1555 ++ (b11 :: (ob0 :: (ob0_1 :: (ownB hp0_1_0 ++ (ob0_2 :: (ownB hp0_2_0 ++ (ownB hp0_3 ++ L)))))))) w' hp0_3 x0.l ∧ Cx (ob0 :: (ob0_1 :: (ownB hp0_1_0 ++ (ob0_2 :: (ownB hp0_2_0 ++ (ownB hp0_3 ++ (ownB hp0_4 ++ []))))))) w (ownB v1555 ++ (b11 :: (ob0 :: (ob0_1 :: (ownB hp0_1_0 ++ (ob0_2 :: (ownB hp0_2_0 ++ (ownB hp0_3 ++ L)))))))) w' ∧ Tr (b11 :: (ob0 :: (ob0_1 :: (ownB hp0_1_0 ++ (ob0_2 :: (ownB hp0_2_0 ++ (ownB hp0_3 ++ (ownB hp0_4 ++ L)))))))) w10 (ownB v1555 ++ (b11 :: (ob0 :: (ob0_1 :: (ownB hp0_1_0 ++ (ob0_2 :: (ownB hp0_2_0 ++ (ownB hp0_3 ++ L)))))))) w' ∧ (∀ x ∈ ownB v1555, x ∉ L) ∧ (∀ x ∈ ownB v1555, x ∈ (ob0 :: (ob0_1 :: (ownB hp0_1_0 ++ (ob0_2 :: (ownB hp0_2_0 ++ (ownB hp0_3 ++ (ownB hp0_4 ++ []))))))) ∨ w.heap.size ≤ x) ∧ ob0 ∉ ownB v1555 ∧ ob0_1 ∉ ownB v1555 ∧ ob0_2 ∉ ownB v1555 ∧ b11 ∉ ownB v1555 ∧ (∀ x ∈ ownB hp0_1_0, x ∉ ownB v1555) ∧ (∀ x ∈ ownB hp0_2_0, x ∉ ownB v1555) ∧ (∀ x ∈ ownB hp0_3, x ∉ ownB v1555)) ?_ ?_
  ·refine regH (n := 20) [(4, fun w' => Cl w' ob0 5 [hp0_4]), (6, fun w' => Cl w' b11 4 [.int .i64 x1.n]), (9, fun w' => Cl w' b11 1 [.int .i64 x1.a]), (13, fun w' => Cl w' bx2 (x2.toNat * 17 + 1 + x1.a.toNat) [.int .i64 (y1.r.get x1.a)])] mixed rfl ?_
   have g1591 := G.drew w10
   have cx1592 := cx16.ca g1591
   have s1593 := pg1459.o (pg1093.o (pg867.o (pg381.o (pg179.o (pg37.o s0_0 rfl) rfl) rfl) rfl) rfl) rfl
   refine hTakeW (i := 0) rfl (by kernel_rfl) (by kernel_rfl) (by kernel_rfl) nrm (cond := fun _ => True) (.inl fun _ => trivial) pg1459.z (wN rfl) (fun _ _ => okMv s1593) trivial rfl fun a1594 p1595 sp1595 => ?_
   have s1596 := p1595.o s1593 rfl
   refine hTakeW (i := 1) rfl (by kernel_rfl) (by kernel_rfl) (by kernel_rfl) nrm (cond := fun _ => True) (.inl fun _ => trivial) p1595.z (wN rfl) (fun _ _ => okMv s1596) trivial rfl fun a1597 p1598 sp1598 => ?_
   refine hTakeW (i := 2) rfl (by kernel_rfl) (by kernel_rfl) (by kernel_rfl) nrm (cond := fun _ => True) (.inl fun _ => trivial) p1598.z (wN rfl) (fun _ _ => okNil sp1598) trivial rfl fun a1599 p1600 sp1600 => ?_
   refine hTakeW (i := 3) rfl (by kernel_rfl) (by kernel_rfl) (by kernel_rfl) nrm (cond := fun _ => True) (.inl fun _ => trivial) p1600.z (wN rfl) (fun _ _ => okFA (o' := 5) fo68_5 sp1600 rfl) trivial rfl fun a1601 p1602 sp1602 => ?_
   have m1603 := m1588.g0 g1591
   refine hTakeW (i := 4) rfl (by kernel_rfl) (by kernel_rfl) (by kernel_rfl) nrm (.inr (.head _)) p1602.z (wN rfl) (fun _ h => okLd (j := 0) na31 sp1602 h rfl rfl) (m1603.clp rfl) rfl fun a1604 p1605 sp1605 => ?_
   have s1606 := p1605.o (p1602.o (p1600.o (p1598.o (p1595.o (pg1459.o (pg1093.o (pg867.o (pg381.o (pg179.o s34 rfl) rfl) rfl) rfl) rfl) rfl) rfl) rfl) rfl) rfl
   refine hTakeW (i := 5) rfl (by kernel_rfl) (by kernel_rfl) (by kernel_rfl) nrm (cond := fun _ => True) (.inl fun _ => trivial) p1605.z (wN rfl) (fun _ _ => okFA (o' := 4) fo40_4 s1606 rfl) trivial rfl fun a1607 p1608 sp1608 => ?_
   have m1609 := m13.g0 g1591
   refine hTakeW (i := 6) rfl (by kernel_rfl) (by kernel_rfl) (by kernel_rfl) nrm (.inr (.tail _ (.head _))) p1608.z (wN rfl) (fun _ h => okLd (j := 0) na2 sp1608 h rfl rfl) (m1609.clp rfl) rfl fun a1610 p1611 sp1611 => ?_
   have s1612 := p1611.o (p1608.o (p1605.o (p1602.o (p1600.o (p1598.o (p1595.o (pg1459.o (pg1093.o (pg867.o (pg381.o (pg179.o (pg37.o s0_2 rfl) rfl) rfl) rfl) rfl) rfl) rfl) rfl) rfl) rfl) rfl) rfl) rfl
   refine hTakeW (i := 7) rfl (by kernel_rfl) (by kernel_rfl) (by kernel_rfl) nrm (cond := fun _ => True) (.inl fun _ => trivial) p1611.z (wN rfl) (fun _ _ => okMv s1612) trivial rfl fun a1613 p1614 sp1614 => ?_
   have s1615 := p1614.o (p1611.o (p1608.o s1606 rfl) rfl) rfl
   refine hTakeW (i := 8) rfl (by kernel_rfl) (by kernel_rfl) (by kernel_rfl) nrm (cond := fun _ => True) (.inl fun _ => trivial) p1614.z (wN rfl) (fun _ _ => okFA (o' := 1) fo40_1 s1615 rfl) trivial rfl fun a1616 p1617 sp1617 => ?_
   refine hTakeW (i := 9) rfl (by kernel_rfl) (by kernel_rfl) (by kernel_rfl) nrm (.inr (.tail _ (.tail _ (.head _)))) p1617.z (wN rfl) (fun _ h => okLd (j := 0) na3 sp1617 h rfl rfl) (m1609.clp rfl) rfl fun a1618 p1619 sp1619 => ?_
   have s1620 := p1619.o (p1617.o sp1614 rfl) rfl
   refine hTakeW (i := 10) rfl (by kernel_rfl) (by kernel_rfl) (by kernel_rfl) nrm (cond := fun _ => True) (.inl fun _ => trivial) p1619.z (wN rfl) (fun _ _ => okNil s1620) trivial rfl fun a1621 p1622 sp1622 => ?_
   refine hTakeW (i := 11) rfl (by kernel_rfl) (by kernel_rfl) (by kernel_rfl) nrm (cond := fun _ => True) (.inl fun _ => trivial) p1622.z (wN rfl) (fun _ _ => okFA (o' := x2.toNat * 17 + 1) fo66_1 sp1622 rfl) trivial rfl fun a1623 p1624 sp1624 => ?_
   have s1625 := p1624.o (p1622.o sp1619 rfl) rfl
   refine hTakeW (i := 12) rfl (by kernel_rfl) (by kernel_rfl) (by kernel_rfl) nrm (cond := fun _ => True) (.inl fun _ => trivial) p1624.z (wN rfl) (fun _ _ => okIA Try.underlying64 Try.sizeOf2 sp1624 s1625 hi1510) trivial rfl fun a1626 p1627 sp1627 => ?_
   have e1628 := (e6.g0 g14).g0 g1591
   refine hTakeW (i := 13) rfl (by kernel_rfl) (by kernel_rfl) (by kernel_rfl) nrm (.inr (.tail _ (.tail _ (.tail _ (.head _))))) p1627.z (wN rfl) (fun _ h => okLd (j := 0) na2 sp1627 h rfl rfl) (clE (TFrame.C_r_get _ hi1510) e1628 (Nat.add_assoc _ _ _).symm) rfl fun a1629 p1630 sp1630 => ?_
   have s1631 := p1630.o (p1627.o (p1624.o (p1622.o (p1619.o (p1617.o (p1614.o sp1611 rfl) rfl) rfl) rfl) rfl) rfl) rfl
   refine hTakeW (i := 14) rfl (by kernel_rfl) (by kernel_rfl) (by kernel_rfl) nrm (cond := fun _ => True) (.inl fun _ => trivial) p1630.z (wN rfl) (fun _ _ => okBd (pb2 s1631 sp1630) (bd80_0_1 x1.n (y1.r.get x1.a) _)) trivial rfl fun a1632 p1633 sp1633 => ?_
   have m1641 := m1589.g0 g1591
   have m1642 := m1590.g0 g1591
   have q1643 := q1462.t0 g1591.t0 g1591
   have q1644 := q1463.t0 g1591.t0 g1591
   have q1645 := q1464.t0 g1591.t0 g1591
   have q1646 := q1465.t0 g1591.t0 g1591
   refine hOne (i := 15) (by kernel_rfl) rfl (oBS (K := KTNote) (L := (b11 :: (ob0 :: (ob0_1 :: (ownB hp0_1_0 ++ (ob0_2 :: (ownB hp0_2_0 ++ (ownB hp0_3 ++ (ownB hp0_4 ++ L))))))))) (xs := [(⟨x1.n, y1.r.get x1.a⟩ : TNote)]) (C := [TNote.C (⟨x1.n, y1.r.get x1.a⟩ : TNote)]) p1633.z (pb1 sp1633) (bs31_1_0 (⟨x1.n, y1.r.get x1.a⟩ : TNote)) rfl rfl (all2C rfl all2N) rfl rfl fun a1634 v1635 w1636 p1637 sp1637 q1638 g1639 f1640 => ?_)
   have f1647 := frN f1640
   have nb1648 := nbA hLb cx1592.g.sz (fun _ h => nilO h) f1647
   have sf1649 := sfA (S := (ob0 :: (ob0_1 :: (ownB hp0_1_0 ++ (ob0_2 :: (ownB hp0_2_0 ++ (ownB hp0_3 ++ (ownB hp0_4 ++ [])))))))) cx1592.g.sz (fun _ h => nilO h) f1647
   have n1650 := m1603.no (fun h => nilO h) f1647
   have n1651 := m1641.no (fun h => nilO h) f1647
   have n1652 := m1642.no (fun h => nilO h) f1647
   have n1653 := m1609.no (fun h => nilO h) f1647
   have n1654 := q1643.dj (fun _ _ h => nilO h) f1647
   have n1655 := q1644.dj (fun _ _ h => nilO h) f1647
   have n1656 := q1645.dj (fun _ _ h => nilO h) f1647
   have n1657 := q1646.dj (fun _ _ h => nilO h) f1647
   have cx1658 := cx1592.ap g1639 (fun _ h => nilO h) q1638
   refine ⟨⟨.inr fun h => h.g0 g1639, .inl (by kernel_rfl), .inr fun h => h.g0 g1639, .inl (by kernel_rfl), trivial⟩, ?_⟩
   have s1659 := p1637.o (p1633.o (p1630.o (p1627.o (p1624.o (p1622.o (p1619.o (p1617.o (p1614.o (p1611.o (p1608.o sp1605 rfl) rfl) rfl) rfl) rfl) rfl) rfl) rfl) rfl) rfl) rfl
   have q1660 := q1646.t0 (tAp g1639 (fun _ h => nilO h) f1647) g1639
   have m1661 := m1603.g0 g1639
   have m1662 := m1641.g0 g1639
   have m1663 := m1642.g0 g1639
   have m1664 := m1609.g0 g1639
   have q1665 := q1643.t0 (tAp g1639 (fun _ h => nilO h) f1647) g1639
   have q1666 := q1644.t0 (tAp g1639 (fun _ h => nilO h) f1647) g1639
   have q1667 := q1645.t0 (tAp g1639 (fun _ h => nilO h) f1647) g1639
   refine hOne (i := 16) (by kernel_rfl) rfl (oApp (K := KTNote) (L := (ownB v1635 ++ (b11 :: (ob0 :: (ob0_1 :: (ownB hp0_1_0 ++ (ob0_2 :: (ownB hp0_2_0 ++ (ownB hp0_3 ++ (ownB hp0_4 ++ L)))))))))) Try.underlying31 ti80 rfl p1637.z s1659 sp1637 q1660 q1638.src hz1545 (fun _ h => (List.mem_append_right _ (.tail _ (.tail _ (.tail _ (List.mem_append_right _ (.tail _ (List.mem_append_right _ (List.mem_append_right _ (List.mem_append_left _ h)))))))))) rfl fun a1668 v1669 w1670 p1671 sp1671 q1672 g1673 f1674 => ?_)
   have nb1675 := nbA hLb cx1658.g.sz (D.dl (i := 6) rfl) f1674
   have sf1676 := sfA (S := (ob0 :: (ob0_1 :: (ownB hp0_1_0 ++ (ob0_2 :: (ownB hp0_2_0 ++ (ownB hp0_3 ++ (ownB hp0_4 ++ [])))))))) cx1658.g.sz (fun _ h => .inl (.tail _ (.tail _ (List.mem_append_right _ (.tail _ (List.mem_append_right _ (List.mem_append_right _ (List.mem_append_left _ h)))))))) f1674
   have n1677 := m1661.no (D.bo (i := 0) (j := 6) rfl rfl rfl) f1674
   have n1678 := m1662.no (D.bo (i := 1) (j := 6) rfl rfl rfl) f1674
   have n1679 := m1663.no (D.bo (i := 3) (j := 6) rfl rfl rfl) f1674
   have n1680 := m1664.no (qhp0_4.nb e15) f1674
   have n1681 := q1665.dj (D.dj (i := 2) (j := 6) rfl rfl rfl) f1674
   have n1682 := q1666.dj (D.dj (i := 4) (j := 6) rfl rfl rfl) f1674
   have n1683 := q1667.dj (D.dj (i := 5) (j := 6) rfl rfl rfl) f1674
   have n1684 := q1638.dj (djs n1657) f1674
   have cx1685 := cx1658.ap g1673 (fun _ h => .inl (.tail _ (.tail _ (List.mem_append_right _ (.tail _ (List.mem_append_right _ (List.mem_append_right _ (List.mem_append_left _ h)))))))) q1672
   have cx1686 := cx1685.sub (fun i h => (List.mem_append.1 h).elim (fun h => (List.mem_append_left _ h)) (fun h => (List.mem_append.1 h).elim (fun h => (List.mem_append_right _ (List.mem_append_left _ h))) (fun h => (List.mem_cons.1 h).elim (fun e => e ▸ (List.mem_append_right _ (List.mem_append_right _ (.head _)))) (fun h => (List.mem_cons.1 h).elim (fun e => e ▸ (List.mem_append_right _ (List.mem_append_right _ (.tail _ (.head _))))) (fun h => (List.mem_cons.1 h).elim (fun e => e ▸ (List.mem_append_right _ (List.mem_append_right _ (.tail _ (.tail _ (.head _)))))) (fun h => (List.mem_append.1 h).elim (fun h => (List.mem_append_right _ (List.mem_append_right _ (.tail _ (.tail _ (.tail _ (List.mem_append_left _ h))))))) (fun h => (List.mem_cons.1 h).elim (fun e => e ▸ (List.mem_append_right _ (List.mem_append_right _ (.tail _ (.tail _ (.tail _ (List.mem_append_right _ (.head _)))))))) (fun h => (List.mem_append.1 h).elim (fun h => (List.mem_append_right _ (List.mem_append_right _ (.tail _ (.tail _ (.tail _ (List.mem_append_right _ (.tail _ (List.mem_append_left _ h))))))))) (fun h => (List.mem_append.1 h).elim (fun h => (List.mem_append_right _ (List.mem_append_right _ (.tail _ (.tail _ (.tail _ (List.mem_append_right _ (.tail _ (List.mem_append_right _ (List.mem_append_left _ h)))))))))) (fun h => (List.mem_append_right _ (List.mem_append_right _ (.tail _ (.tail _ (.tail _ (List.mem_append_right _ (.tail _ (List.mem_append_right _ (List.mem_append_right _ (List.mem_append_right _ h))))))))))))))))))))
   have q1687 := q1672.sub (fun i h => (List.mem_append.1 h).elim (fun h => (List.mem_append_left _ h)) (fun h => (List.mem_append.1 h).elim (fun h => (List.mem_append_right _ (List.mem_append_left _ h))) (fun h => (List.mem_cons.1 h).elim (fun e => e ▸ (List.mem_append_right _ (List.mem_append_right _ (.head _)))) (fun h => (List.mem_cons.1 h).elim (fun e => e ▸ (List.mem_append_right _ (List.mem_append_right _ (.tail _ (.head _))))) (fun h => (List.mem_cons.1 h).elim (fun e => e ▸ (List.mem_append_right _ (List.mem_append_right _ (.tail _ (.tail _ (.head _)))))) (fun h => (List.mem_append.1 h).elim (fun h => (List.mem_append_right _ (List.mem_append_right _ (.tail _ (.tail _ (.tail _ (List.mem_append_left _ h))))))) (fun h => (List.mem_cons.1 h).elim (fun e => e ▸ (List.mem_append_right _ (List.mem_append_right _ (.tail _ (.tail _ (.tail _ (List.mem_append_right _ (.head _)))))))) (fun h => (List.mem_append.1 h).elim (fun h => (List.mem_append_right _ (List.mem_append_right _ (.tail _ (.tail _ (.tail _ (List.mem_append_right _ (.tail _ (List.mem_append_left _ h))))))))) (fun h => (List.mem_append.1 h).elim (fun h => (List.mem_append_right _ (List.mem_append_right _ (.tail _ (.tail _ (.tail _ (List.mem_append_right _ (.tail _ (List.mem_append_right _ (List.mem_append_left _ h)))))))))) (fun h => (List.mem_append_right _ (List.mem_append_right _ (.tail _ (.tail _ (.tail _ (List.mem_append_right _ (.tail _ (List.mem_append_right _ (List.mem_append_right _ (List.mem_append_right _ h))))))))))))))))))))
   have m1688 := m1664.g g1673 (qhp0_4.nb e15)
   refine ⟨⟨.inl (by kernel_rfl), .inl (by kernel_rfl), .inr fun _ => (m1688.clp rfl), .inl (by kernel_rfl), trivial⟩, ?_⟩
   have s1689 := p1671.o (p1637.o (p1633.o (p1630.o (p1627.o (p1624.o (p1622.o (p1619.o (p1617.o (p1614.o (p1611.o (p1608.o (p1605.o (p1602.o (p1600.o (p1598.o sp1595 rfl) rfl) rfl) rfl) rfl) rfl) rfl) rfl) rfl) rfl) rfl) rfl) rfl) rfl) rfl) rfl
   refine hTakeW (i := 17) rfl (by kernel_rfl) (by kernel_rfl) (by kernel_rfl) nrm (cond := fun _ => True) (.inl fun _ => trivial) p1671.z (wN rfl) (fun _ _ => okNil s1689) trivial rfl fun a1690 p1691 sp1691 => ?_
   refine hTakeW (i := 18) rfl (by kernel_rfl) (by kernel_rfl) (by kernel_rfl) nrm (cond := fun _ => True) (.inl fun _ => trivial) p1691.z (wN rfl) (fun _ _ => okFA (o' := 5) fo68_5 sp1691 rfl) trivial rfl fun a1692 p1693 sp1693 => ?_
   have s1694 := p1693.o (p1691.o sp1671 rfl) rfl
   have m1695 := m1661.g g1673 (D.bo (i := 0) (j := 6) rfl rfl rfl)
   refine hOne (i := 19) (by kernel_rfl) rfl (oSto (cs := [v1669]) (l' := Tmicro_machine.C ({ x0 with a := default, t := default, notes := z1544 }) hp0_0 (ptr ob0_1 0) (ptr ob0_2 0) hp0_3 v1669) p1693.z sp1693 s1694 m1695 Try.sizeOf31 q1687.cells (oneS q1687.one) rfl rfl fun w1696 m1697 g1698 => ?_)
   have cx1699 := cx1686.sS g1698 (.head _)
   refine ⟨⟨.inl (by kernel_rfl), .inl (by kernel_rfl), .inl (by kernel_rfl), .inl (by kernel_rfl), trivial⟩, ?_⟩
   have q1700 := q1687.t1 (g1698.t1 (List.mem_append_right _ (List.mem_append_right _ (.tail _ (.head _))))) g1698 n1677
   have q1701 := (q1665.tr (Tr.sub (tAp g1673 (fun _ h => (List.mem_append_right _ (.tail _ (.tail _ (.tail _ (List.mem_append_right _ (.tail _ (List.mem_append_right _ (List.mem_append_right _ (List.mem_append_left _ h)))))))))) f1674) (fun i h => (List.mem_append.1 h).elim (fun h => (List.mem_append_left _ h)) (fun h => (List.mem_append.1 h).elim (fun h => (List.mem_append_right _ (List.mem_append_left _ h))) (fun h => (List.mem_cons.1 h).elim (fun e => e ▸ (List.mem_append_right _ (List.mem_append_right _ (.head _)))) (fun h => (List.mem_cons.1 h).elim (fun e => e ▸ (List.mem_append_right _ (List.mem_append_right _ (.tail _ (.head _))))) (fun h => (List.mem_cons.1 h).elim (fun e => e ▸ (List.mem_append_right _ (List.mem_append_right _ (.tail _ (.tail _ (.head _)))))) (fun h => (List.mem_append.1 h).elim (fun h => (List.mem_append_right _ (List.mem_append_right _ (.tail _ (.tail _ (.tail _ (List.mem_append_left _ h))))))) (fun h => (List.mem_cons.1 h).elim (fun e => e ▸ (List.mem_append_right _ (List.mem_append_right _ (.tail _ (.tail _ (.tail _ (List.mem_append_right _ (.head _)))))))) (fun h => (List.mem_append.1 h).elim (fun h => (List.mem_append_right _ (List.mem_append_right _ (.tail _ (.tail _ (.tail _ (List.mem_append_right _ (.tail _ (List.mem_append_left _ h))))))))) (fun h => (List.mem_append.1 h).elim (fun h => (List.mem_append_right _ (List.mem_append_right _ (.tail _ (.tail _ (.tail _ (List.mem_append_right _ (.tail _ (List.mem_append_right _ (List.mem_append_left _ h)))))))))) (fun h => (List.mem_append_right _ (List.mem_append_right _ (.tail _ (.tail _ (.tail _ (List.mem_append_right _ (.tail _ (List.mem_append_right _ (List.mem_append_right _ (List.mem_append_right _ h))))))))))))))))))))) g1673 (D.dj (i := 2) (j := 6) rfl rfl rfl)).t1 (g1698.t1 (List.mem_append_right _ (List.mem_append_right _ (.tail _ (.head _))))) g1698 (D.bo (i := 0) (j := 2) rfl rfl rfl)
   have q1702 := (q1666.tr (Tr.sub (tAp g1673 (fun _ h => (List.mem_append_right _ (.tail _ (.tail _ (.tail _ (List.mem_append_right _ (.tail _ (List.mem_append_right _ (List.mem_append_right _ (List.mem_append_left _ h)))))))))) f1674) (fun i h => (List.mem_append.1 h).elim (fun h => (List.mem_append_left _ h)) (fun h => (List.mem_append.1 h).elim (fun h => (List.mem_append_right _ (List.mem_append_left _ h))) (fun h => (List.mem_cons.1 h).elim (fun e => e ▸ (List.mem_append_right _ (List.mem_append_right _ (.head _)))) (fun h => (List.mem_cons.1 h).elim (fun e => e ▸ (List.mem_append_right _ (List.mem_append_right _ (.tail _ (.head _))))) (fun h => (List.mem_cons.1 h).elim (fun e => e ▸ (List.mem_append_right _ (List.mem_append_right _ (.tail _ (.tail _ (.head _)))))) (fun h => (List.mem_append.1 h).elim (fun h => (List.mem_append_right _ (List.mem_append_right _ (.tail _ (.tail _ (.tail _ (List.mem_append_left _ h))))))) (fun h => (List.mem_cons.1 h).elim (fun e => e ▸ (List.mem_append_right _ (List.mem_append_right _ (.tail _ (.tail _ (.tail _ (List.mem_append_right _ (.head _)))))))) (fun h => (List.mem_append.1 h).elim (fun h => (List.mem_append_right _ (List.mem_append_right _ (.tail _ (.tail _ (.tail _ (List.mem_append_right _ (.tail _ (List.mem_append_left _ h))))))))) (fun h => (List.mem_append.1 h).elim (fun h => (List.mem_append_right _ (List.mem_append_right _ (.tail _ (.tail _ (.tail _ (List.mem_append_right _ (.tail _ (List.mem_append_right _ (List.mem_append_left _ h)))))))))) (fun h => (List.mem_append_right _ (List.mem_append_right _ (.tail _ (.tail _ (.tail _ (List.mem_append_right _ (.tail _ (List.mem_append_right _ (List.mem_append_right _ (List.mem_append_right _ h))))))))))))))))))))) g1673 (D.dj (i := 4) (j := 6) rfl rfl rfl)).t1 (g1698.t1 (List.mem_append_right _ (List.mem_append_right _ (.tail _ (.head _))))) g1698 (D.bo (i := 0) (j := 4) rfl rfl rfl)
   have q1703 := (q1667.tr (Tr.sub (tAp g1673 (fun _ h => (List.mem_append_right _ (.tail _ (.tail _ (.tail _ (List.mem_append_right _ (.tail _ (List.mem_append_right _ (List.mem_append_right _ (List.mem_append_left _ h)))))))))) f1674) (fun i h => (List.mem_append.1 h).elim (fun h => (List.mem_append_left _ h)) (fun h => (List.mem_append.1 h).elim (fun h => (List.mem_append_right _ (List.mem_append_left _ h))) (fun h => (List.mem_cons.1 h).elim (fun e => e ▸ (List.mem_append_right _ (List.mem_append_right _ (.head _)))) (fun h => (List.mem_cons.1 h).elim (fun e => e ▸ (List.mem_append_right _ (List.mem_append_right _ (.tail _ (.head _))))) (fun h => (List.mem_cons.1 h).elim (fun e => e ▸ (List.mem_append_right _ (List.mem_append_right _ (.tail _ (.tail _ (.head _)))))) (fun h => (List.mem_append.1 h).elim (fun h => (List.mem_append_right _ (List.mem_append_right _ (.tail _ (.tail _ (.tail _ (List.mem_append_left _ h))))))) (fun h => (List.mem_cons.1 h).elim (fun e => e ▸ (List.mem_append_right _ (List.mem_append_right _ (.tail _ (.tail _ (.tail _ (List.mem_append_right _ (.head _)))))))) (fun h => (List.mem_append.1 h).elim (fun h => (List.mem_append_right _ (List.mem_append_right _ (.tail _ (.tail _ (.tail _ (List.mem_append_right _ (.tail _ (List.mem_append_left _ h))))))))) (fun h => (List.mem_append.1 h).elim (fun h => (List.mem_append_right _ (List.mem_append_right _ (.tail _ (.tail _ (.tail _ (List.mem_append_right _ (.tail _ (List.mem_append_right _ (List.mem_append_left _ h)))))))))) (fun h => (List.mem_append_right _ (List.mem_append_right _ (.tail _ (.tail _ (.tail _ (List.mem_append_right _ (.tail _ (List.mem_append_right _ (List.mem_append_right _ (List.mem_append_right _ h))))))))))))))))))))) g1673 (D.dj (i := 5) (j := 6) rfl rfl rfl)).t1 (g1698.t1 (List.mem_append_right _ (List.mem_append_right _ (.tail _ (.head _))))) g1698 (D.bo (i := 0) (j := 5) rfl rfl rfl)
   have s1704 := p1693.o (p1691.o (p1671.o (p1637.o (p1633.o (p1630.o (p1627.o (p1624.o (p1622.o (p1619.o (p1617.o (p1614.o (p1611.o (p1608.o (p1605.o (p1602.o (p1600.o (p1598.o (p1595.o s1587 rfl) rfl) rfl) rfl) rfl) rfl) rfl) rfl) rfl) rfl) rfl) rfl) rfl) rfl) rfl) rfl) rfl) rfl) rfl
   have m1705 := (m1662.g g1673 (D.bo (i := 1) (j := 6) rfl rfl rfl)).g1 g1698 (D.bb (i := 0) (j := 1) rfl rfl rfl).symm
   have m1706 := (m1663.g g1673 (D.bo (i := 3) (j := 6) rfl rfl rfl)).g1 g1698 (D.bb (i := 0) (j := 3) rfl rfl rfl).symm
   have m1707 := m1688.g1 g1698 (mob0.ne e15).symm
   exact hDone (by kernel_rfl) ⟨rfl, v1669, p1693.z, s1704, m1697, m1705, m1706, m1707, (q1700.sub (fun i h => (List.mem_append.1 h).elim (fun h => (List.mem_append_left _ h)) (fun h => (List.mem_append_right _ (List.mem_append_right _ h))))), (q1701.sub (fun i h => (List.mem_append.1 h).elim (fun h => (List.mem_append_left _ h)) (fun h => (List.mem_append_right _ (List.mem_append_right _ h))))), (q1702.sub (fun i h => (List.mem_append.1 h).elim (fun h => (List.mem_append_left _ h)) (fun h => (List.mem_append_right _ (List.mem_append_right _ h))))), (q1703.sub (fun i h => (List.mem_append.1 h).elim (fun h => (List.mem_append_left _ h)) (fun h => (List.mem_append_right _ (List.mem_append_right _ h))))), (cx1699.sub (fun i h => (List.mem_append.1 h).elim (fun h => (List.mem_append_left _ h)) (fun h => (List.mem_append_right _ (List.mem_append_right _ h))))), ((((g1591.t0.trans (tAp g1639 (fun _ h => nilO h) f1647)).trans (Tr.sub (tAp g1673 (fun _ h => (List.mem_append_right _ (.tail _ (.tail _ (.tail _ (List.mem_append_right _ (.tail _ (List.mem_append_right _ (List.mem_append_right _ (List.mem_append_left _ h)))))))))) f1674) (fun i h => (List.mem_append.1 h).elim (fun h => (List.mem_append_left _ h)) (fun h => (List.mem_append.1 h).elim (fun h => (List.mem_append_right _ (List.mem_append_left _ h))) (fun h => (List.mem_cons.1 h).elim (fun e => e ▸ (List.mem_append_right _ (List.mem_append_right _ (.head _)))) (fun h => (List.mem_cons.1 h).elim (fun e => e ▸ (List.mem_append_right _ (List.mem_append_right _ (.tail _ (.head _))))) (fun h => (List.mem_cons.1 h).elim (fun e => e ▸ (List.mem_append_right _ (List.mem_append_right _ (.tail _ (.tail _ (.head _)))))) (fun h => (List.mem_append.1 h).elim (fun h => (List.mem_append_right _ (List.mem_append_right _ (.tail _ (.tail _ (.tail _ (List.mem_append_left _ h))))))) (fun h => (List.mem_cons.1 h).elim (fun e => e ▸ (List.mem_append_right _ (List.mem_append_right _ (.tail _ (.tail _ (.tail _ (List.mem_append_right _ (.head _)))))))) (fun h => (List.mem_append.1 h).elim (fun h => (List.mem_append_right _ (List.mem_append_right _ (.tail _ (.tail _ (.tail _ (List.mem_append_right _ (.tail _ (List.mem_append_left _ h))))))))) (fun h => (List.mem_append.1 h).elim (fun h => (List.mem_append_right _ (List.mem_append_right _ (.tail _ (.tail _ (.tail _ (List.mem_append_right _ (.tail _ (List.mem_append_right _ (List.mem_append_left _ h)))))))))) (fun h => (List.mem_append_right _ (List.mem_append_right _ (.tail _ (.tail _ (.tail _ (List.mem_append_right _ (.tail _ (List.mem_append_right _ (List.mem_append_right _ (List.mem_append_right _ h)))))))))))))))))))))).trans (g1698.t1 (List.mem_append_right _ (List.mem_append_right _ (.tail _ (.head _)))))).sub (fun i h => (List.mem_append.1 h).elim (fun h => (List.mem_append_left _ h)) (fun h => (List.mem_append_right _ (List.mem_append_right _ h))))), nb1675, sf1676, n1677, n1678, n1679, n1680, n1681, n1682, n1683⟩
  rintro a1708 w1709 ⟨h1711, z1710, s1712, m1713, m1714, m1715, m1716, q1717, q1718, q1719, q1720, cx1721, t1722, n1723, n1724, n1725, n1726, n1727, n1728, n1729, n1730, n1731⟩
  refine blkN (thenN ?_)
  refine wp_seq ?_
  refine reg ?_
  refine s1 z1710 (okAs cst) rfl fun a1732 p1733 s1734 => ?_
  refine rN (thenN ?_)
  obtain rfl := Option.some.inj h
  have q1735 := q1461.mono t1722
  exact wp_ret (ret1 p1733.z Try.results37 (rvT s1734) ⟨_, rfl, hp0_1_0, h1711, rfl, m1713, (q1735.mono ((Tr.refl _ _).sub (fun i h => (List.mem_cons.1 h).elim (fun e => e ▸ (List.mem_append_right _ (.tail _ (.head _)))) (fun h => (List.mem_cons.1 h).elim (fun e => e ▸ (List.mem_append_right _ (.tail _ (.tail _ (.head _))))) (fun h => (List.mem_append.1 h).elim (fun h => (List.mem_append_right _ (.tail _ (.tail _ (.tail _ (List.mem_append_left _ h)))))) (fun h => (List.mem_cons.1 h).elim (fun e => e ▸ (List.mem_append_right _ (.tail _ (.tail _ (.tail _ (List.mem_append_right _ (.head _))))))) (fun h => (List.mem_append.1 h).elim (fun h => (List.mem_append_right _ (.tail _ (.tail _ (.tail _ (List.mem_append_right _ (.tail _ (List.mem_append_left _ h)))))))) (fun h => (List.mem_append.1 h).elim (fun h => (List.mem_append_right _ (.tail _ (.tail _ (.tail _ (List.mem_append_right _ (.tail _ (List.mem_append_right _ (List.mem_append_left _ h))))))))) (fun h => (List.mem_append.1 h).elim (fun h => (List.mem_append_left _ h)) (fun h => (List.mem_append_right _ (.tail _ (.tail _ (.tail _ (List.mem_append_right _ (.tail _ (List.mem_append_right _ (List.mem_append_right _ h)))))))))))))))))), m1714, (q1718.sub (fun i h => (List.mem_cons.1 h).elim (fun e => e ▸ (List.mem_append_right _ (.tail _ (.head _)))) (fun h => (List.mem_cons.1 h).elim (fun e => e ▸ (List.mem_append_right _ (.tail _ (.tail _ (.head _))))) (fun h => (List.mem_append.1 h).elim (fun h => (List.mem_append_right _ (.tail _ (.tail _ (.tail _ (List.mem_append_left _ h)))))) (fun h => (List.mem_cons.1 h).elim (fun e => e ▸ (List.mem_append_right _ (.tail _ (.tail _ (.tail _ (List.mem_append_right _ (.head _))))))) (fun h => (List.mem_append.1 h).elim (fun h => (List.mem_append_right _ (.tail _ (.tail _ (.tail _ (List.mem_append_right _ (.tail _ (List.mem_append_left _ h)))))))) (fun h => (List.mem_append.1 h).elim (fun h => (List.mem_append_right _ (.tail _ (.tail _ (.tail _ (List.mem_append_right _ (.tail _ (List.mem_append_right _ (List.mem_append_left _ h))))))))) (fun h => (List.mem_append.1 h).elim (fun h => (List.mem_append_left _ h)) (fun h => (List.mem_append_right _ (.tail _ (.tail _ (.tail _ (List.mem_append_right _ (.tail _ (List.mem_append_right _ (List.mem_append_right _ h))))))))))))))))), m1715, (q1719.sub (fun i h => (List.mem_cons.1 h).elim (fun e => e ▸ (List.mem_append_right _ (.tail _ (.head _)))) (fun h => (List.mem_cons.1 h).elim (fun e => e ▸ (List.mem_append_right _ (.tail _ (.tail _ (.head _))))) (fun h => (List.mem_append.1 h).elim (fun h => (List.mem_append_right _ (.tail _ (.tail _ (.tail _ (List.mem_append_left _ h)))))) (fun h => (List.mem_cons.1 h).elim (fun e => e ▸ (List.mem_append_right _ (.tail _ (.tail _ (.tail _ (List.mem_append_right _ (.head _))))))) (fun h => (List.mem_append.1 h).elim (fun h => (List.mem_append_right _ (.tail _ (.tail _ (.tail _ (List.mem_append_right _ (.tail _ (List.mem_append_left _ h)))))))) (fun h => (List.mem_append.1 h).elim (fun h => (List.mem_append_right _ (.tail _ (.tail _ (.tail _ (List.mem_append_right _ (.tail _ (List.mem_append_right _ (List.mem_append_left _ h))))))))) (fun h => (List.mem_append.1 h).elim (fun h => (List.mem_append_left _ h)) (fun h => (List.mem_append_right _ (.tail _ (.tail _ (.tail _ (List.mem_append_right _ (.tail _ (List.mem_append_right _ (List.mem_append_right _ h))))))))))))))))), (q1720.sub (fun i h => (List.mem_cons.1 h).elim (fun e => e ▸ (List.mem_append_right _ (.tail _ (.head _)))) (fun h => (List.mem_cons.1 h).elim (fun e => e ▸ (List.mem_append_right _ (.tail _ (.tail _ (.head _))))) (fun h => (List.mem_append.1 h).elim (fun h => (List.mem_append_right _ (.tail _ (.tail _ (.tail _ (List.mem_append_left _ h)))))) (fun h => (List.mem_cons.1 h).elim (fun e => e ▸ (List.mem_append_right _ (.tail _ (.tail _ (.tail _ (List.mem_append_right _ (.head _))))))) (fun h => (List.mem_append.1 h).elim (fun h => (List.mem_append_right _ (.tail _ (.tail _ (.tail _ (List.mem_append_right _ (.tail _ (List.mem_append_left _ h)))))))) (fun h => (List.mem_append.1 h).elim (fun h => (List.mem_append_right _ (.tail _ (.tail _ (.tail _ (List.mem_append_right _ (.tail _ (List.mem_append_right _ (List.mem_append_left _ h))))))))) (fun h => (List.mem_append.1 h).elim (fun h => (List.mem_append_left _ h)) (fun h => (List.mem_append_right _ (.tail _ (.tail _ (.tail _ (List.mem_append_right _ (.tail _ (List.mem_append_right _ (List.mem_append_right _ h))))))))))))))))), (q1717.sub (fun i h => (List.mem_cons.1 h).elim (fun e => e ▸ (List.mem_append_right _ (.tail _ (.head _)))) (fun h => (List.mem_cons.1 h).elim (fun e => e ▸ (List.mem_append_right _ (.tail _ (.tail _ (.head _))))) (fun h => (List.mem_append.1 h).elim (fun h => (List.mem_append_right _ (.tail _ (.tail _ (.tail _ (List.mem_append_left _ h)))))) (fun h => (List.mem_cons.1 h).elim (fun e => e ▸ (List.mem_append_right _ (.tail _ (.tail _ (.tail _ (List.mem_append_right _ (.head _))))))) (fun h => (List.mem_append.1 h).elim (fun h => (List.mem_append_right _ (.tail _ (.tail _ (.tail _ (List.mem_append_right _ (.tail _ (List.mem_append_left _ h)))))))) (fun h => (List.mem_append.1 h).elim (fun h => (List.mem_append_right _ (.tail _ (.tail _ (.tail _ (List.mem_append_right _ (.tail _ (List.mem_append_right _ (List.mem_append_left _ h))))))))) (fun h => (List.mem_append.1 h).elim (fun h => (List.mem_append_left _ h)) (fun h => (List.mem_append_right _ (.tail _ (.tail _ (.tail _ (List.mem_append_right _ (.tail _ (List.mem_append_right _ (List.mem_append_right _ h))))))))))))))))), (sepC (show ∀ x ∈ [ob0], x ∉ (ob0_1 :: (ownB hp0_1_0 ++ (ob0_2 :: (ownB hp0_2_0 ++ (ownB hp0_3 ++ (ownB h1711 ++ L)))))) from (in1 (nc (D.bb (i := 0) (j := 1) rfl rfl rfl) (na (D.bo (i := 0) (j := 2) rfl rfl rfl) (nc (D.bb (i := 0) (j := 3) rfl rfl rfl) (na (D.bo (i := 0) (j := 4) rfl rfl rfl) (na (D.bo (i := 0) (j := 5) rfl rfl rfl) (na n1725 (D.bl (i := 0) rfl))))))))) (sepC (show ∀ x ∈ [ob0_1], x ∉ (ownB hp0_1_0 ++ (ob0_2 :: (ownB hp0_2_0 ++ (ownB hp0_3 ++ (ownB h1711 ++ L))))) from (in1 (na (D.bo (i := 1) (j := 2) rfl rfl rfl) (nc (D.bb (i := 1) (j := 3) rfl rfl rfl) (na (D.bo (i := 1) (j := 4) rfl rfl rfl) (na (D.bo (i := 1) (j := 5) rfl rfl rfl) (na n1726 (D.bl (i := 1) rfl)))))))) (sepC (show ∀ x ∈ ownB hp0_1_0, x ∉ (ob0_2 :: (ownB hp0_2_0 ++ (ownB hp0_3 ++ (ownB h1711 ++ L)))) from (fun x hx => (nc (nbo (D.ob (i := 2) (j := 3) rfl rfl rfl) hx) (na ((D.dj (i := 2) (j := 4) rfl rfl rfl) x hx) (na ((D.dj (i := 2) (j := 5) rfl rfl rfl) x hx) (na (n1729 x hx) ((D.dl (i := 2) rfl) x hx))))))) (sepC (show ∀ x ∈ [ob0_2], x ∉ (ownB hp0_2_0 ++ (ownB hp0_3 ++ (ownB h1711 ++ L))) from (in1 (na (D.bo (i := 3) (j := 4) rfl rfl rfl) (na (D.bo (i := 3) (j := 5) rfl rfl rfl) (na n1727 (D.bl (i := 3) rfl)))))) (sepC (show ∀ x ∈ ownB hp0_2_0, x ∉ (ownB hp0_3 ++ (ownB h1711 ++ L)) from (fun x hx => (na ((D.dj (i := 4) (j := 5) rfl rfl rfl) x hx) (na (n1730 x hx) ((D.dl (i := 4) rfl) x hx))))) (sepC (show ∀ x ∈ ownB hp0_3, x ∉ (ownB h1711 ++ L) from (fun x hx => (na (n1731 x hx) ((D.dl (i := 5) rfl) x hx)))) (sepC (show ∀ x ∈ ownB h1711, x ∉ L from (fun x hx => (n1723 x hx))) sepN))))))), (fun _ h => .inl (.tail _ (.tail _ (List.mem_append_left _ h)))), n1724, (show ∀ b ∈ (ob0 :: (ob0_1 :: (ownB hp0_1_0 ++ (ob0_2 :: (ownB hp0_2_0 ++ (ownB hp0_3 ++ (ownB h1711 ++ L))))))), b < w1709.heap.size from (fun i h => cx1721.lt i ((List.mem_cons.1 h).elim (fun e => e ▸ (List.mem_append_right _ (.tail _ (.head _)))) (fun h => (List.mem_cons.1 h).elim (fun e => e ▸ (List.mem_append_right _ (.tail _ (.tail _ (.head _))))) (fun h => (List.mem_append.1 h).elim (fun h => (List.mem_append_right _ (.tail _ (.tail _ (.tail _ (List.mem_append_left _ h)))))) (fun h => (List.mem_cons.1 h).elim (fun e => e ▸ (List.mem_append_right _ (.tail _ (.tail _ (.tail _ (List.mem_append_right _ (.head _))))))) (fun h => (List.mem_append.1 h).elim (fun h => (List.mem_append_right _ (.tail _ (.tail _ (.tail _ (List.mem_append_right _ (.tail _ (List.mem_append_left _ h)))))))) (fun h => (List.mem_append.1 h).elim (fun h => (List.mem_append_right _ (.tail _ (.tail _ (.tail _ (List.mem_append_right _ (.tail _ (List.mem_append_right _ (List.mem_append_left _ h))))))))) (fun h => (List.mem_append.1 h).elim (fun h => (List.mem_append_left _ h)) (fun h => (List.mem_append_right _ (.tail _ (.tail _ (.tail _ (List.mem_append_right _ (.tail _ (List.mem_append_right _ (List.mem_append_right _ h)))))))))))))))))), cx1721.g⟩)
 replace h := (ifN hb1460).symm.trans h
 refine wp_skip (blkN (thenN ?_))
 refine wp_seq ?_
 refine reg ?_
 refine s1 pg1459.z (okAs cst) rfl fun a1736 p1737 s1738 => ?_
 refine rN (thenN ?_)
 obtain rfl := Option.some.inj h
 have m1739 := mob0.g0 g14
 have q1740 := qhp0_0.mono (g14.tA (Nat.le_of_eq e15.symm))
 have m1741 := mob0_1.g0 g14
 have q1742 := qhp0_1_0.t0 (g14.tA (Nat.le_of_eq e15.symm)) g14
 have m1743 := mob0_2.g0 g14
 have q1744 := qhp0_2_0.t0 (g14.tA (Nat.le_of_eq e15.symm)) g14
 have q1745 := qhp0_3.t0 (g14.tA (Nat.le_of_eq e15.symm)) g14
 have q1746 := qhp0_4.t0 (g14.tA (Nat.le_of_eq e15.symm)) g14
 exact wp_ret (ret1 p1737.z Try.results37 (rvT s1738) ⟨_, rfl, hp0_1_0, hp0_4, rfl, m1739, (q1740.mono ((Tr.refl _ _).sub (fun i h => (.tail _ h)))), m1741, (q1742.sub (fun i h => (.tail _ h))), m1743, (q1744.sub (fun i h => (.tail _ h))), (q1745.sub (fun i h => (.tail _ h))), (q1746.sub (fun i h => (.tail _ h))), (sepC (show ∀ x ∈ [ob0], x ∉ (ob0_1 :: (ownB hp0_1_0 ++ (ob0_2 :: (ownB hp0_2_0 ++ (ownB hp0_3 ++ (ownB hp0_4 ++ L)))))) from (in1 (nc (D.bb (i := 0) (j := 1) rfl rfl rfl) (na (D.bo (i := 0) (j := 2) rfl rfl rfl) (nc (D.bb (i := 0) (j := 3) rfl rfl rfl) (na (D.bo (i := 0) (j := 4) rfl rfl rfl) (na (D.bo (i := 0) (j := 5) rfl rfl rfl) (na (D.bo (i := 0) (j := 6) rfl rfl rfl) (D.bl (i := 0) rfl))))))))) (sepC (show ∀ x ∈ [ob0_1], x ∉ (ownB hp0_1_0 ++ (ob0_2 :: (ownB hp0_2_0 ++ (ownB hp0_3 ++ (ownB hp0_4 ++ L))))) from (in1 (na (D.bo (i := 1) (j := 2) rfl rfl rfl) (nc (D.bb (i := 1) (j := 3) rfl rfl rfl) (na (D.bo (i := 1) (j := 4) rfl rfl rfl) (na (D.bo (i := 1) (j := 5) rfl rfl rfl) (na (D.bo (i := 1) (j := 6) rfl rfl rfl) (D.bl (i := 1) rfl)))))))) (sepC (show ∀ x ∈ ownB hp0_1_0, x ∉ (ob0_2 :: (ownB hp0_2_0 ++ (ownB hp0_3 ++ (ownB hp0_4 ++ L)))) from (fun x hx => (nc (nbo (D.ob (i := 2) (j := 3) rfl rfl rfl) hx) (na ((D.dj (i := 2) (j := 4) rfl rfl rfl) x hx) (na ((D.dj (i := 2) (j := 5) rfl rfl rfl) x hx) (na ((D.dj (i := 2) (j := 6) rfl rfl rfl) x hx) ((D.dl (i := 2) rfl) x hx))))))) (sepC (show ∀ x ∈ [ob0_2], x ∉ (ownB hp0_2_0 ++ (ownB hp0_3 ++ (ownB hp0_4 ++ L))) from (in1 (na (D.bo (i := 3) (j := 4) rfl rfl rfl) (na (D.bo (i := 3) (j := 5) rfl rfl rfl) (na (D.bo (i := 3) (j := 6) rfl rfl rfl) (D.bl (i := 3) rfl)))))) (sepC (show ∀ x ∈ ownB hp0_2_0, x ∉ (ownB hp0_3 ++ (ownB hp0_4 ++ L)) from (fun x hx => (na ((D.dj (i := 4) (j := 5) rfl rfl rfl) x hx) (na ((D.dj (i := 4) (j := 6) rfl rfl rfl) x hx) ((D.dl (i := 4) rfl) x hx))))) (sepC (show ∀ x ∈ ownB hp0_3, x ∉ (ownB hp0_4 ++ L) from (fun x hx => (na ((D.dj (i := 5) (j := 6) rfl rfl rfl) x hx) ((D.dl (i := 5) rfl) x hx)))) (sepC (show ∀ x ∈ ownB hp0_4, x ∉ L from (fun x hx => ((D.dl (i := 6) rfl) x hx))) sepN))))))), (fun _ h => .inl (.tail _ (.tail _ (List.mem_append_left _ h)))), (fun _ h => .inl (.tail _ (.tail _ (List.mem_append_right _ (.tail _ (List.mem_append_right _ (List.mem_append_right _ (List.mem_append_left _ h)))))))), (show ∀ b ∈ (ob0 :: (ob0_1 :: (ownB hp0_1_0 ++ (ob0_2 :: (ownB hp0_2_0 ++ (ownB hp0_3 ++ (ownB hp0_4 ++ L))))))), b < w10.heap.size from (fun i h => cx16.lt i (.tail _ h))), cx16.g⟩)
end Go.Proofs.Ytjdalhedpgiimaa
