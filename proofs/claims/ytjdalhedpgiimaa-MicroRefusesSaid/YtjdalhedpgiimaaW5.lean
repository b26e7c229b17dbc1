/-
  The Go functions micro_Step, micro_Step_n1, tholelaw09_up, tholelaw09_pick: each comes to its plain function. Conditions: where the plain function is some.
-/
import Derived.Test.YtjdalhedpgiimaaW4
set_option linter.unusedVariables false
namespace Go.Proofs.Ytjdalhedpgiimaa
open Go Go.RowKit Go.Proofs.Ytjdalhedpgiimaa.Gx
set_option maxHeartbeats 4000000 in
set_option maxRecDepth 100000 in
theorem c10 (k : Nat) (L : List Nat) (w : World) (x0 : List TIns) (hp0 : Value) (x1 : Tcell_Arena) (ob1 : Nat) (hp1_0 : Value) (x2 : Tpermit_Table) (ob2 : Nat) (hp2_0 : Value) (x3 : Int) (x4 : List TFrame) (hp4 : Value) (hL : ∀ b ∈ (ob1 :: (ownB hp1_0 ++ (ob2 :: (ownB hp2_0 ++ L)))), b < w.heap.size) (D : Sep [[ob1], ownB hp1_0, [ob2], ownB hp2_0] L) (qhp0 : RdS KTIns (ob1 :: (ownB hp1_0 ++ (ob2 :: (ownB hp2_0 ++ L)))) w hp0 x0) (mob1 : Bk w ob1 (Tcell_Arena.C x1 hp1_0) 72) (qhp1_0 : OwnS (KInt .i64) 2 (ob1 :: (ownB hp1_0 ++ (ob2 :: (ownB hp2_0 ++ L)))) w hp1_0 x1.l) (mob2 : Bk w ob2 (Tpermit_Table.C x2 hp2_0) 78) (qhp2_0 : OwnS KTPark 59 (ob1 :: (ownB hp1_0 ++ (ob2 :: (ownB hp2_0 ++ L)))) w hp2_0 x2.l) (qhp4 : RdS KTFrame (ob1 :: (ownB hp1_0 ++ (ob2 :: (ownB hp2_0 ++ L)))) w hp4 x4) (r : (List TFrame) × (List TNote) × Int × Int × Er × Tcell_Arena × Tpermit_Table) (h : micro_Step k x0 x1 x2 x3 x4 = some r) : Calls Try.prog 10 #[hp0, ptr ob1 0, ptr ob2 0, .int .i64 x3, hp4] w (fun e w' => ∃ v, e = .returned v ∧ ∃ u0_0 u1_0 u4_0 nhp1_0 nhp2_0, v = .tuple #[u0_0, u1_0, .int .i64 r.2.2.1, .int .i64 r.2.2.2.1, u4_0] ∧ RdS KTFrame (ob1 :: (ownB nhp1_0 ++ (ob2 :: (ownB nhp2_0 ++ L)))) w' u0_0 r.1 ∧ RdS KTNote (ob1 :: (ownB nhp1_0 ++ (ob2 :: (ownB nhp2_0 ++ L)))) w' u1_0 r.2.1 ∧ ErG 36 0 (ob1 :: (ownB nhp1_0 ++ (ob2 :: (ownB nhp2_0 ++ L)))) w' u4_0 r.2.2.2.2.1 ∧ Bk w' ob1 (Tcell_Arena.C r.2.2.2.2.2.1 nhp1_0) 72 ∧ OwnS (KInt .i64) 2 (ob1 :: (ownB nhp1_0 ++ (ob2 :: (ownB nhp2_0 ++ L)))) w' nhp1_0 r.2.2.2.2.2.1.l ∧ Bk w' ob2 (Tpermit_Table.C r.2.2.2.2.2.2 nhp2_0) 78 ∧ OwnS KTPark 59 (ob1 :: (ownB nhp1_0 ++ (ob2 :: (ownB nhp2_0 ++ L)))) w' nhp2_0 r.2.2.2.2.2.2.l ∧ Sep [[ob1], ownB nhp1_0, [ob2], ownB nhp2_0] L ∧ (∀ x ∈ ownB nhp1_0, x ∈ (ob1 :: (ownB hp1_0 ++ (ob2 :: (ownB hp2_0 ++ [])))) ∨ w.heap.size ≤ x) ∧ (∀ x ∈ ownB nhp2_0, x ∈ (ob1 :: (ownB hp1_0 ++ (ob2 :: (ownB hp2_0 ++ [])))) ∨ w.heap.size ≤ x) ∧ (∀ b ∈ (ob1 :: (ownB nhp1_0 ++ (ob2 :: (ownB nhp2_0 ++ L)))), b < w'.heap.size) ∧ G (ob1 :: (ownB hp1_0 ++ (ob2 :: (ownB hp2_0 ++ [])))) w w') := by
 refine enterF Try.func10 rfl rfl fun a0 z0 A => ?_
 have s0_0 := A 0 (hp0) rfl
 have s0_1 := A 1 (ptr ob1 0) rfl
 have s0_2 := A 2 (ptr ob2 0) rfl
 have s0_3 := A 3 (.int .i64 x3) rfl
 have s0_4 := A 4 (hp4) rfl
 clear A
 have hLb : ∀ b ∈ L, b < w.heap.size := fun b h => hL b (.tail _ (List.mem_append_right _ (.tail _ (List.mem_append_right _ h))))
 have c0 : Cx (ob1 :: (ownB hp1_0 ++ (ob2 :: (ownB hp2_0 ++ [])))) w (ob1 :: (ownB hp1_0 ++ (ob2 :: (ownB hp2_0 ++ L)))) w := ⟨G.refl _ _, hL⟩
 unfold micro_Step at h
 refine wp_seq ?_
 refine reg ?_
 refine s1 z0 (okAs cst) rfl fun a1 p2 s3 => ?_
 refine s1 p2.z (okAs cst) rfl fun a4 p5 s6 => ?_
 refine s1 p5.z (okAs cst) rfl fun a7 p8 s9 => ?_
 refine s1 p8.z (okAs cst) rfl fun a10 p11 s12 => ?_
 refine s1 p11.z (okAs cst) rfl fun a13 p14 s15 => ?_
 refine rN (thenN ?_)
 refine scopeX 0 rfl ?_
 refine wp_seq ?_
 refine wp_seq ?_
 refine reg ?_
 have s16 := p14.o (p11.o (p8.o (p5.o (p2.o s0_1 rfl) rfl) rfl) rfl) rfl
 refine s1 p14.z (okMv s16) rfl fun a17 p18 s19 => ?_
 refine s1 p18.z (okPEq Try.underlying24 s19 cst) rfl fun a20 p21 s22 => ?_
 refine s1 p21.z (okMv s22) rfl fun a23 p24 s25 => ?_
 have s26 := p24.o (p21.o (p18.o (p14.o (p11.o (p8.o (p5.o (p2.o s0_2 rfl) rfl) rfl) rfl) rfl) rfl) rfl) rfl
 refine s1g p24.z (okMv s26) rfl (yd p24.z rfl rfl s25) fun a27 p28 s29 => ?_
 have s30 := p28.o s25 rfl
 refine s1g p28.z (okPEq Try.underlying25 s29 cst) rfl (yd p28.z rfl rfl s30) fun a31 p32 s33 => ?_
 have s34 := p32.o s30 rfl
 refine s1 p32.z (okPickF s34 s33) rfl fun a35 p36 s37 => ?_
 refine s1 p36.z (okMv s37) rfl fun a38 p39 s40 => ?_
 have s41 := p39.o (p36.o (p32.o (p28.o (p24.o (p21.o (p18.o (p14.o (p11.o (p8.o (p5.o (p2.o s0_4 rfl) rfl) rfl) rfl) rfl) rfl) rfl) rfl) rfl) rfl) rfl) rfl
 refine s1g p39.z (okMv s41) rfl (yd p39.z rfl rfl s40) fun a42 p43 s44 => ?_
 have s45 := p43.o s40 rfl
 refine s1g p43.z (okLenR Try.underlying30 s44 qhp4) rfl (yd p43.z rfl rfl s45) fun a46 p47 s48 => ?_
 have s49 := p47.o s45 rfl
 refine s1g p47.z (okEq s48 cst) rfl (yd p47.z rfl rfl s49) fun a50 p51 s52 => ?_
 have s53 := p51.o s49 rfl
 refine s1 p51.z (okPickF s53 s52) rfl fun a54 p55 s56 => ?_
 refine s1 p55.z (okMv s56) rfl fun a57 p58 s59 => ?_
 refine cutP 4 (fun a' => Pg Try.f10.ntmps [33, 34, 35, 36] a57 a' ∧ a'.eval (.tmp 36) = .bool (((x4.length : Int) == 0) || (decide (16 < (x4.length : Int))))) ?_ ?_
 ·rcases bf ((x4.length : Int) == 0) with hb60 | hb60
  ·have s61 := bv s59 hb60
   have s62 := p58.o (p55.o (p51.o (p47.o (p43.o s41 rfl) rfl) rfl) rfl) rfl
   refine s1g p58.z (okMv s62) rfl (yd p58.z rfl rfl s61) fun a63 p64 s65 => ?_
   have s66 := p64.o s61 rfl
   refine s1g p64.z (okLenR Try.underlying30 s65 qhp4) rfl (yd p64.z rfl rfl s66) fun a67 p68 s69 => ?_
   have s70 := p68.o s66 rfl
   refine s1g p68.z (okGt s69 cst) rfl (yd p68.z rfl rfl s70) fun a71 p72 s73 => ?_
   have s74 := p72.o s70 rfl
   refine s1 p72.z (okPickF s74 s73) rfl fun a75 p76 s77 => ?_
   exact rN ⟨rfl, rfl, (((((Pg.refl p58.z).st p64 rfl).st p68 rfl).st p72 rfl).st p76 rfl), (orF hb60 s77)⟩
  ·have s78 := bv s59 hb60
   refine s1k p58.z rfl (yd p58.z rfl rfl s78) rfl fun a79 p80 s81 => ?_
   have s82 := p80.o s78 rfl
   refine s1k p80.z rfl (yd p80.z rfl rfl s82) rfl fun a83 p84 s85 => ?_
   have s86 := p84.o s82 rfl
   refine s1k p84.z rfl (yd p84.z rfl rfl s86) rfl fun a87 p88 s89 => ?_
   have s90 := p88.o s86 rfl
   refine s1 p88.z (okPickT s90 cst) rfl fun a91 p92 s93 => ?_
   exact rN ⟨rfl, rfl, (((((Pg.refl p58.z).st p80 rfl).st p84 rfl).st p88 rfl).st p92 rfl), (orT hb60 s93)⟩
 rintro a94 ⟨pg95, s96⟩
 refine rN (thenN ?_)
 have s97 := pg95.o (p58.o (p55.o (p51.o (p47.o (p43.o (p39.o (p36.o (p32.o (p28.o (p24.o (p21.o (p18.o s16 rfl) rfl) rfl) rfl) rfl) rfl) rfl) rfl) rfl) rfl) rfl) rfl) rfl
 have s98 := pg95.o (p58.o (p55.o (p51.o (p47.o (p43.o (p39.o (p36.o (p32.o (p28.o s26 rfl) rfl) rfl) rfl) rfl) rfl) rfl) rfl) rfl) rfl
 have s99 := pg95.o (p58.o (p55.o (p51.o (p47.o (p43.o s41 rfl) rfl) rfl) rfl) rfl) rfl
 have s100 := pg95.o (p58.o (p55.o (p51.o (p47.o (p43.o (p39.o (p36.o (p32.o (p28.o (p24.o (p21.o (p18.o (p14.o (p11.o (p8.o (p5.o s3 rfl) rfl) rfl) rfl) rfl) rfl) rfl) rfl) rfl) rfl) rfl) rfl) rfl) rfl) rfl) rfl) rfl
 have s101 := pg95.o (p58.o (p55.o (p51.o (p47.o (p43.o (p39.o (p36.o (p32.o (p28.o (p24.o (p21.o (p18.o (p14.o (p11.o (p8.o s6 rfl) rfl) rfl) rfl) rfl) rfl) rfl) rfl) rfl) rfl) rfl) rfl) rfl) rfl) rfl) rfl
 have s102 := pg95.o (p58.o (p55.o (p51.o (p47.o (p43.o (p39.o (p36.o (p32.o (p28.o (p24.o (p21.o (p18.o (p14.o (p11.o s9 rfl) rfl) rfl) rfl) rfl) rfl) rfl) rfl) rfl) rfl) rfl) rfl) rfl) rfl) rfl
 have s103 := pg95.o (p58.o (p55.o (p51.o (p47.o (p43.o (p39.o (p36.o (p32.o (p28.o (p24.o (p21.o (p18.o (p14.o s12 rfl) rfl) rfl) rfl) rfl) rfl) rfl) rfl) rfl) rfl) rfl) rfl) rfl) rfl
 have s104 := pg95.o (p58.o (p55.o (p51.o (p47.o (p43.o (p39.o (p36.o (p32.o (p28.o (p24.o (p21.o (p18.o s15 rfl) rfl) rfl) rfl) rfl) rfl) rfl) rfl) rfl) rfl) rfl) rfl) rfl
 have pg105 : Pg _ [10, 11, 12, 13, 14, 21, 22, 23, 24, 25, 26, 27, 28, 29, 30, 31, 32, 33, 34, 35, 36] _ _ := (((((((((((((((((((Pg.refl z0).st p2 rfl).st p5 rfl).st p8 rfl).st p11 rfl).st p14 rfl).st p18 rfl).st p21 rfl).st p24 rfl).st p28 rfl).st p32 rfl).st p36 rfl).st p39 rfl).st p43 rfl).st p47 rfl).st p51 rfl).st p55 rfl).st p58 rfl).tr pg95 rfl)
 refine cnd s96 (fun hb106 => ?_) (fun hb106 => ?_)
 ·replace h := (ifP hb106).symm.trans h
  refine wp_seq ?_
  refine reg ?_
  refine s1 pg105.z (okMkI Try.underlying36 cst _) rfl fun a107 p108 s109 => ?_
  refine s1 p108.z (okAs cst) rfl fun a110 p111 s112 => ?_
  refine s1 p111.z (okAs cst) rfl fun a113 p114 s115 => ?_
  refine s1 p114.z (okAs cst) rfl fun a116 p117 s118 => ?_
  refine s1 p117.z (okAs cst) rfl fun a119 p120 s121 => ?_
  have s122 := p120.o (p117.o (p114.o (p111.o s109 rfl) rfl) rfl) rfl
  refine s1 p120.z (okAs s122) rfl fun a123 p124 s125 => ?_
  refine rN (thenN ?_)
  have s126 := p124.o (p120.o (p117.o (p114.o s112 rfl) rfl) rfl) rfl
  have s127 := p124.o (p120.o (p117.o s115 rfl) rfl) rfl
  have s128 := p124.o (p120.o s118 rfl) rfl
  have s129 := p124.o s121 rfl
  obtain rfl := Option.some.inj h
  exact wp_ret (thenR (jumpR (ret5 p124.z Try.results10 (rvT s126) (rvT s127) (rvT s128) (rvT s129) (rvT s125) ⟨_, rfl, (.slice none 0 0), (.slice none 0 0), (.iface 36 (.int .i64 1)), hp1_0, hp2_0, rfl, RdS.nil, RdS.nil, ErG.code, mob1, qhp1_0, mob2, qhp2_0, (sepC (show ∀ x ∈ [ob1], x ∉ (ownB hp1_0 ++ (ob2 :: (ownB hp2_0 ++ L))) from (in1 (na (D.bo (i := 0) (j := 1) rfl rfl rfl) (nc (D.bb (i := 0) (j := 2) rfl rfl rfl) (na (D.bo (i := 0) (j := 3) rfl rfl rfl) (D.bl (i := 0) rfl)))))) (sepC (show ∀ x ∈ ownB hp1_0, x ∉ (ob2 :: (ownB hp2_0 ++ L)) from (fun x hx => (nc (nbo (D.ob (i := 1) (j := 2) rfl rfl rfl) hx) (na ((D.dj (i := 1) (j := 3) rfl rfl rfl) x hx) ((D.dl (i := 1) rfl) x hx))))) (sepC (show ∀ x ∈ [ob2], x ∉ (ownB hp2_0 ++ L) from (in1 (na (D.bo (i := 2) (j := 3) rfl rfl rfl) (D.bl (i := 2) rfl)))) (sepC (show ∀ x ∈ ownB hp2_0, x ∉ L from (fun x hx => ((D.dl (i := 3) rfl) x hx))) sepN)))), (fun _ h => .inl (.tail _ (List.mem_append_left _ h))), (fun _ h => .inl (.tail _ (List.mem_append_right _ (.tail _ (List.mem_append_left _ h))))), (show ∀ b ∈ (ob1 :: (ownB hp1_0 ++ (ob2 :: (ownB hp2_0 ++ L)))), b < w.heap.size from c0.lt), c0.g⟩)))
 replace h := (ifN hb106).symm.trans h
 refine wp_skip (thenN ?_)
 refine wp_seq ?_
 refine wp_seq ?_
 refine reg ?_
 refine s1 pg105.z (okMv s98) rfl fun a130 p131 s132 => ?_
 have s133 := p131.o (pg105.o s0_3 rfl) rfl
 refine s1 p131.z (okMv s133) rfl fun a134 p135 s136 => ?_
 have s137 := p135.o s132 rfl
 obtain ⟨t138, ht139, h⟩ := Option.bind_eq_some_iff.1 h
 refine lS (oCall p135.z Try.call22 (ag2 s137 s136) (c22 (ob1 :: (ownB hp1_0 ++ L)) w x2 ob2 hp2_0 x3 (fun i h => c0.lt i ((List.mem_cons.1 h).elim (fun e => e ▸ (.tail _ (List.mem_append_right _ (.head _)))) (fun h => (List.mem_append.1 h).elim (fun h => (.tail _ (List.mem_append_right _ (.tail _ (List.mem_append_left _ h))))) (fun h => (List.mem_cons.1 h).elim (fun e => e ▸ (.head _)) (fun h => (List.mem_append.1 h).elim (fun h => (.tail _ (List.mem_append_left _ h))) (fun h => (.tail _ (List.mem_append_right _ (.tail _ (List.mem_append_right _ h)))))))))) (sepC (show ∀ x ∈ [ob2], x ∉ (ownB hp2_0 ++ (ob1 :: (ownB hp1_0 ++ L))) from (in1 (na (D.bo (i := 2) (j := 3) rfl rfl rfl) (nc (D.bb (i := 0) (j := 2) rfl rfl rfl).symm (na (D.ob (i := 1) (j := 2) rfl rfl rfl) (D.bl (i := 2) rfl)))))) (sepC (show ∀ x ∈ ownB hp2_0, x ∉ (ob1 :: (ownB hp1_0 ++ L)) from (fun x hx => (nc (nbo (D.bo (i := 0) (j := 3) rfl rfl rfl) hx) (na ((djs (D.dj (i := 1) (j := 3) rfl rfl rfl)) x hx) ((D.dl (i := 3) rfl) x hx))))) sepN)) mob2 (qhp2_0.sub (fun i h => (List.mem_cons.1 h).elim (fun e => e ▸ (.tail _ (List.mem_append_right _ (.head _)))) (fun h => (List.mem_append.1 h).elim (fun h => (.tail _ (List.mem_append_right _ (.tail _ (List.mem_append_left _ h))))) (fun h => (List.mem_cons.1 h).elim (fun e => e ▸ (.head _)) (fun h => (List.mem_append.1 h).elim (fun h => (.tail _ (List.mem_append_left _ h))) (fun h => (.tail _ (List.mem_append_right _ (.tail _ (List.mem_append_right _ h)))))))))) _ ht139) rfl fun v143 a140 w141 hp144 p142 sp142 => ?_)
 obtain ⟨h145, rfl, q146, g149⟩ := hp144
 have cx150 := c0.ca g149
 have q151 := q146.mono ((Tr.refl _ _).sub (fun i h => (List.mem_cons.1 h).elim (fun e => e ▸ (.tail _ (List.mem_append_right _ (.head _)))) (fun h => (List.mem_append.1 h).elim (fun h => (.tail _ (List.mem_append_right _ (.tail _ (List.mem_append_left _ h))))) (fun h => (List.mem_cons.1 h).elim (fun e => e ▸ (.head _)) (fun h => (List.mem_append.1 h).elim (fun h => (.tail _ (List.mem_append_left _ h))) (fun h => (.tail _ (List.mem_append_right _ (.tail _ (List.mem_append_right _ h))))))))))
 refine s1 p142.z (okMv sp142) rfl fun a152 p153 s154 => ?_
 refine s1 p153.z (okExt (vs := [_, _]) s154 rfl) rfl fun a155 p156 s157 => ?_
 have s158 := p156.o s154 rfl
 refine s1 p156.z (okExt (vs := [_, _]) s158 rfl) rfl fun a159 p160 s161 => ?_
 have m169 := mob1.g0 g149
 have m170 := mob2.g0 g149
 have q171 := qhp1_0.t0 g149.t0 g149
 have q172 := qhp2_0.t0 g149.t0 g149
 refine lS (oAlloc zv59 p160.z rfl fun a162 w163 b164 p165 sp165 m166 g167 e168 => ?_)
 have f174 := cx150.nw e168
 have cx173 := cx150.al g167 m166
 have s175 := p165.o (p160.o s157 rfl) rfl
 refine lS (oStoW (cs := TPark.C t138.1) p165.z sp165 s175 m166 Try.sizeOf59 rfl (TPark.C_one _) rfl fun w176 m177 g178 => ?_)
 have cx179 := cx173.st g178 f174
 have s180 := p165.o s161 rfl
 refine s1 p165.z (okAs s180) rfl fun a181 p182 s183 => ?_
 refine rN (thenN ?_)
 refine wp_seq ?_
 refine reg ?_
 refine s1 p182.z (okMv s183) rfl fun a184 p185 s186 => ?_
 have q187 := q151.mono ((g167.tA (Nat.le_of_eq e168.symm)).trans (g178.t1 (.head _)))
 refine s1 p185.z (okENeN ef33 s186 q187 _) rfl fun a188 p189 s190 => ?_
 refine s1 p189.z (okMv s190) rfl fun a191 p192 s193 => ?_
 refine cutP 3 (fun a' => Pg Try.f10.ntmps [47, 48, 49] a191 a' ∧ a'.eval (.tmp 49) = .bool ((!(t138.2).isN) || t138.1.blocked)) ?_ ?_
 ·rcases bf (!(t138.2).isN) with hb194 | hb194
  ·have s195 := bv s193 hb194
   have s196 := p192.o (p189.o (p185.o (p182.o sp165 rfl) rfl) rfl) rfl
   refine s1g p192.z (okFA (o' := 2) fo59_2 s196 rfl) rfl (yd p192.z rfl rfl s195) fun a197 p198 s199 => ?_
   have s200 := p198.o s195 rfl
   refine s1g p198.z (okLd (j := 2) na4 s199 (m177.cl) rfl rfl) rfl (yd p198.z rfl rfl s200) fun a201 p202 s203 => ?_
   have s204 := p202.o s200 rfl
   refine s1 p202.z (okPickF s204 s203) rfl fun a205 p206 s207 => ?_
   exact rN ⟨rfl, rfl, ((((Pg.refl p192.z).st p198 rfl).st p202 rfl).st p206 rfl), (orF hb194 s207)⟩
  ·have s208 := bv s193 hb194
   refine s1k p192.z rfl (yd p192.z rfl rfl s208) rfl fun a209 p210 s211 => ?_
   have s212 := p210.o s208 rfl
   refine s1k p210.z rfl (yd p210.z rfl rfl s212) rfl fun a213 p214 s215 => ?_
   have s216 := p214.o s212 rfl
   refine s1 p214.z (okPickT s216 cst) rfl fun a217 p218 s219 => ?_
   exact rN ⟨rfl, rfl, ((((Pg.refl p192.z).st p210 rfl).st p214 rfl).st p218 rfl), (orT hb194 s219)⟩
 rintro a220 ⟨pg221, s222⟩
 refine rN (thenN ?_)
 have s223 := pg221.o (p192.o (p189.o (p185.o (p182.o (p165.o (p160.o (p156.o (p153.o (p142.o (p135.o s133 rfl) rfl) rfl) rfl) rfl) rfl) rfl) rfl) rfl) rfl) rfl
 have pg224 : Pg _ [15, 16, 38, 39, 40, 41, 42, 43, 44, 45, 46, 47, 48, 49] _ _ := (((((((((((((Pg.refl pg105.z).st p131 rfl).st p135 rfl).st p142 rfl).st p153 rfl).st p156 rfl).st p160 rfl).st p165 rfl).st p182 rfl).st p185 rfl).st p189 rfl).st p192 rfl).tr pg221 rfl)
 refine cnd s222 (fun hb225 => ?_) (fun hb225 => ?_)
 ·replace h := (ifP hb225).symm.trans h
  refine wp_seq ?_
  refine reg ?_
  refine s1 pg224.z (okMkI Try.underlying36 cst _) rfl fun a226 p227 s228 => ?_
  refine s1 p227.z (okAs cst) rfl fun a229 p230 s231 => ?_
  refine s1 p230.z (okAs cst) rfl fun a232 p233 s234 => ?_
  refine s1 p233.z (okAs cst) rfl fun a235 p236 s237 => ?_
  refine s1 p236.z (okAs cst) rfl fun a238 p239 s240 => ?_
  have s241 := p239.o (p236.o (p233.o (p230.o s228 rfl) rfl) rfl) rfl
  refine s1 p239.z (okAs s241) rfl fun a242 p243 s244 => ?_
  refine rN (thenN ?_)
  have s245 := p243.o (p239.o (p236.o (p233.o s231 rfl) rfl) rfl) rfl
  have s246 := p243.o (p239.o (p236.o s234 rfl) rfl) rfl
  have s247 := p243.o (p239.o s237 rfl) rfl
  have s248 := p243.o s240 rfl
  obtain rfl := Option.some.inj h
  have m249 := (m169.g0 g167).g1 g178 (m169.ne e168)
  have q250 := (q171.t0 (g167.tA (Nat.le_of_eq e168.symm)) g167).t1 (g178.t1 (.head _)) g178 (q171.nb e168)
  have m251 := (m170.g0 g167).g1 g178 (m170.ne e168)
  have q252 := (q172.t0 (g167.tA (Nat.le_of_eq e168.symm)) g167).t1 (g178.t1 (.head _)) g178 (q172.nb e168)
  exact wp_ret (thenR (jumpR (ret5 p243.z Try.results10 (rvT s245) (rvT s246) (rvT s247) (rvT s248) (rvT s244) ⟨_, rfl, (.slice none 0 0), (.slice none 0 0), (.iface 36 (.int .i64 1)), hp1_0, hp2_0, rfl, RdS.nil, RdS.nil, ErG.code, m249, (q250.sub (fun i h => (.tail _ h))), m251, (q252.sub (fun i h => (.tail _ h))), (sepC (show ∀ x ∈ [ob1], x ∉ (ownB hp1_0 ++ (ob2 :: (ownB hp2_0 ++ L))) from (in1 (na (D.bo (i := 0) (j := 1) rfl rfl rfl) (nc (D.bb (i := 0) (j := 2) rfl rfl rfl) (na (D.bo (i := 0) (j := 3) rfl rfl rfl) (D.bl (i := 0) rfl)))))) (sepC (show ∀ x ∈ ownB hp1_0, x ∉ (ob2 :: (ownB hp2_0 ++ L)) from (fun x hx => (nc (nbo (D.ob (i := 1) (j := 2) rfl rfl rfl) hx) (na ((D.dj (i := 1) (j := 3) rfl rfl rfl) x hx) ((D.dl (i := 1) rfl) x hx))))) (sepC (show ∀ x ∈ [ob2], x ∉ (ownB hp2_0 ++ L) from (in1 (na (D.bo (i := 2) (j := 3) rfl rfl rfl) (D.bl (i := 2) rfl)))) (sepC (show ∀ x ∈ ownB hp2_0, x ∉ L from (fun x hx => ((D.dl (i := 3) rfl) x hx))) sepN)))), (fun _ h => .inl (.tail _ (List.mem_append_left _ h))), (fun _ h => .inl (.tail _ (List.mem_append_right _ (.tail _ (List.mem_append_left _ h))))), (show ∀ b ∈ (ob1 :: (ownB hp1_0 ++ (ob2 :: (ownB hp2_0 ++ L)))), b < w176.heap.size from (fun i h => cx179.lt i (.tail _ h))), cx179.g⟩)))
 replace h := (ifN hb225).symm.trans h
 refine wp_skip (thenN ?_)
 refine wp_seq ?_
 refine reg ?_
 have s253 := pg224.o (pg105.o s0_0 rfl) rfl
 refine s1 pg224.z (okMv s253) rfl fun a254 p255 s256 => ?_
 have s257 := p255.o (pg224.o s97 rfl) rfl
 refine s1 p255.z (okMv s257) rfl fun a258 p259 s260 => ?_
 have s261 := p259.o (p255.o (pg224.o s98 rfl) rfl) rfl
 refine s1 p259.z (okMv s261) rfl fun a262 p263 s264 => ?_
 have s265 := p263.o (p259.o (p255.o s223 rfl) rfl) rfl
 refine s1 p263.z (okMv s265) rfl fun a266 p267 s268 => ?_
 have s269 := p267.o (p263.o (p259.o (p255.o (pg224.o s99 rfl) rfl) rfl) rfl) rfl
 refine s1 p267.z (okMv s269) rfl fun a270 p271 s272 => ?_
 have q273 := qhp4.mono ((g149.t0.trans (g167.tA (Nat.le_of_eq e168.symm))).trans (g178.t1 (.head _)))
 obtain ⟨t274, ht275, h⟩ := Option.bind_eq_some_iff.1 h
 refine lS (oCall p271.z Try.call23 (ag1 s272) (c23 (b164 :: (ob1 :: (ownB hp1_0 ++ (ob2 :: (ownB hp2_0 ++ L))))) w176 cx179.lt _ _ q273 _ ht275) rfl fun v279 a276 w277 hp280 p278 sp278 => ?_)
 have m284 := (m169.g0 g167).g1 g178 (m169.ne e168)
 have m285 := (m170.g0 g167).g1 g178 (m170.ne e168)
 have q286 := (q171.t0 (g167.tA (Nat.le_of_eq e168.symm)) g167).t1 (g178.t1 (.head _)) g178 (q171.nb e168)
 have q287 := (q172.t0 (g167.tA (Nat.le_of_eq e168.symm)) g167).t1 (g178.t1 (.head _)) g178 (q172.nb e168)
 obtain ⟨q281, f282, g283⟩ := hp280
 have f288 := frN f282
 have nb289 := nbA hLb cx179.g.sz (fun _ h => nilO h) f288
 have sf290 := sfA (S := (ob1 :: (ownB hp1_0 ++ (ob2 :: (ownB hp2_0 ++ []))))) cx179.g.sz (fun _ h => nilO h) f288
 have n291 := m284.no (fun h => nilO h) f288
 have n292 := m285.no (fun h => nilO h) f288
 have n293 := m177.no (fun h => nilO h) f288
 have n294 := q286.dj (fun _ _ h => nilO h) f288
 have n295 := q287.dj (fun _ _ h => nilO h) f288
 have cx296 := cx179.ap g283 (fun _ h => nilO h) q281
 have s297 := p278.o (p271.o (p267.o (p263.o (p259.o s256 rfl) rfl) rfl) rfl) rfl
 have s298 := p278.o (p271.o (p267.o (p263.o s260 rfl) rfl) rfl) rfl
 have s299 := p278.o (p271.o (p267.o s264 rfl) rfl) rfl
 have s300 := p278.o (p271.o s268 rfl) rfl
 have q302 := qhp0.mono (((g149.t0.trans (g167.tA (Nat.le_of_eq e168.symm))).trans (g178.t1 (.head _))).trans (tAp g283 (fun _ h => nilO h) f288))
 refine s1 p278.z (okBd (v := .agg (Tmicro_machine.C (⟨x0, default, default, x3, t274, [], 0⟩ : Tmicro_machine) hp0 (ptr ob1 0) (ptr ob2 0) v279 (.slice none 0 0)).toArray) (pb5 s297 s298 s299 s300 sp278) (by obtain ⟨_, _, e301, _⟩ := q302.val; rw [e301]; obtain ⟨_, _, e303, _⟩ := q281.val; rw [e303]; exact bd68_0_1_2_3_4 _ _ _ _ _ x3 _ _ _ _)) rfl fun a304 p305 s306 => ?_
 have m314 := m284.g0 g283
 have m315 := m285.g0 g283
 have m316 := m177.g0 g283
 have q317 := q286.t0 (tAp g283 (fun _ h => nilO h) f288) g283
 have q318 := q287.t0 (tAp g283 (fun _ h => nilO h) f288) g283
 refine lS (oBox (l := Tmicro_machine.C (⟨x0, default, default, x3, t274, [], 0⟩ : Tmicro_machine) hp0 (ptr ob1 0) (ptr ob2 0) v279 (.slice none 0 0)) p305.z s306 rfl rfl fun a307 w308 b309 p310 sp310 m311 g312 e313 => ?_)
 have f320 := cx296.nw e313
 have cx319 := cx296.al g312 m311
 refine s1 p310.z (okAs sp310) rfl fun a321 p322 s323 => ?_
 refine rN (thenN ?_)
 refine wp_seq ?_
 refine reg ?_
 refine s1 p322.z (okAs cst) rfl fun a324 p325 s326 => ?_
 refine rN (thenN ?_)
 have s342 := p325.o (p322.o (p310.o (p305.o (p278.o (p271.o (p267.o (p263.o (p259.o (p255.o s253 rfl) rfl) rfl) rfl) rfl) rfl) rfl) rfl) rfl) rfl
 have s343 := p325.o (p322.o (p310.o (p305.o (p278.o (p271.o (p267.o (p263.o (p259.o (p255.o (pg224.o s100 rfl) rfl) rfl) rfl) rfl) rfl) rfl) rfl) rfl) rfl) rfl
 have s344 := p325.o (p322.o (p310.o (p305.o (p278.o (p271.o (p267.o (p263.o (p259.o (p255.o (pg224.o s101 rfl) rfl) rfl) rfl) rfl) rfl) rfl) rfl) rfl) rfl) rfl
 have s345 := p325.o (p322.o (p310.o (p305.o (p278.o (p271.o (p267.o (p263.o (p259.o (p255.o (pg224.o s102 rfl) rfl) rfl) rfl) rfl) rfl) rfl) rfl) rfl) rfl) rfl
 have s346 := p325.o (p322.o (p310.o (p305.o (p278.o (p271.o (p267.o (p263.o (p259.o (p255.o (pg224.o s103 rfl) rfl) rfl) rfl) rfl) rfl) rfl) rfl) rfl) rfl) rfl
 have s347 := p325.o (p322.o (p310.o (p305.o (p278.o (p271.o (p267.o (p263.o (p259.o (p255.o (pg224.o s104 rfl) rfl) rfl) rfl) rfl) rfl) rfl) rfl) rfl) rfl) rfl
 have s348 := p325.o s323 rfl
 have m349 := m314.g0 g312
 have m350 := m315.g0 g312
 have m351 := m316.g0 g312
 have q352 := q302.mono (g312.tA (Nat.le_of_eq e313.symm))
 have q353 := q317.t0 (g312.tA (Nat.le_of_eq e313.symm)) g312
 have q354 := q318.t0 (g312.tA (Nat.le_of_eq e313.symm)) g312
 have q355 := q281.t0 (g312.tA (Nat.le_of_eq e313.symm)) g312
 refine labelX (I := (fun k' a' w' => ∃ i327 i328 i329 i330 i331 i332 i333 i334 i335 i336 h337 h338 h339 h340 h341, Z Try.f10.ntmps a' ∧ a'.eval (.tmp 0) = hp0 ∧ a'.eval (.tmp 10) = .slice none 0 0 ∧ a'.eval (.tmp 11) = .slice none 0 0 ∧ a'.eval (.tmp 12) = .int .i64 0 ∧ a'.eval (.tmp 13) = .int .i64 0 ∧ a'.eval (.tmp 14) = .nilIface ∧ a'.eval (.tmp 17) = ptr b309 0 ∧ a'.eval (.tmp 18) = .int .i64 i336 ∧ Bk w' ob1 (Tcell_Arena.C (⟨i332, i333⟩ : Tcell_Arena) h340) 72 ∧ Bk w' ob2 (Tpermit_Table.C (⟨i334, i335⟩ : Tpermit_Table) h341) 78 ∧ Bk w' b164 (TPark.C t138.1) 59 ∧ Bk w' b309 (Tmicro_machine.C (⟨i327, default, default, i328, i329, i330, i331⟩ : Tmicro_machine) h337 (ptr ob1 0) (ptr ob2 0) h338 h339) 68 ∧ RdS KTIns (ownB h338 ++ (ownB h339 ++ (ownB h340 ++ (ownB h341 ++ (b309 :: b164 :: ob1 :: ob2 :: L))))) w' hp0 x0 ∧ OwnS (KInt .i64) 2 (ownB h338 ++ (ownB h339 ++ (ownB h340 ++ (ownB h341 ++ (b309 :: b164 :: ob1 :: ob2 :: L))))) w' h340 i332 ∧ OwnS KTPark 59 (ownB h338 ++ (ownB h339 ++ (ownB h340 ++ (ownB h341 ++ (b309 :: b164 :: ob1 :: ob2 :: L))))) w' h341 i334 ∧ RdS KTIns (ownB h338 ++ (ownB h339 ++ (ownB h340 ++ (ownB h341 ++ (b309 :: b164 :: ob1 :: ob2 :: L))))) w' h337 i327 ∧ OwnS KTFrame 66 (ownB h338 ++ (ownB h339 ++ (ownB h340 ++ (ownB h341 ++ (b309 :: b164 :: ob1 :: ob2 :: L))))) w' h338 i329 ∧ OwnS KTNote 80 (ownB h338 ++ (ownB h339 ++ (ownB h340 ++ (ownB h341 ++ (b309 :: b164 :: ob1 :: ob2 :: L))))) w' h339 i330 ∧ Cx (ob1 :: (ownB hp1_0 ++ (ob2 :: (ownB hp2_0 ++ [])))) w (ownB h338 ++ (ownB h339 ++ (ownB h340 ++ (ownB h341 ++ (b309 :: b164 :: ob1 :: ob2 :: L))))) w' ∧ (∀ x ∈ ownB h338, x ∉ L) ∧ (∀ x ∈ ownB h338, x ∈ (ob1 :: (ownB hp1_0 ++ (ob2 :: (ownB hp2_0 ++ [])))) ∨ w.heap.size ≤ x) ∧ ob1 ∉ ownB h338 ∧ ob2 ∉ ownB h338 ∧ b164 ∉ ownB h338 ∧ b309 ∉ ownB h338 ∧ (∀ x ∈ ownB h339, x ∉ L) ∧ (∀ x ∈ ownB h339, x ∈ (ob1 :: (ownB hp1_0 ++ (ob2 :: (ownB hp2_0 ++ [])))) ∨ w.heap.size ≤ x) ∧ ob1 ∉ ownB h339 ∧ ob2 ∉ ownB h339 ∧ b164 ∉ ownB h339 ∧ b309 ∉ ownB h339 ∧ (∀ x ∈ ownB h338, x ∉ ownB h339) ∧ (∀ x ∈ ownB h340, x ∉ L) ∧ (∀ x ∈ ownB h340, x ∈ (ob1 :: (ownB hp1_0 ++ (ob2 :: (ownB hp2_0 ++ [])))) ∨ w.heap.size ≤ x) ∧ ob1 ∉ ownB h340 ∧ ob2 ∉ ownB h340 ∧ b164 ∉ ownB h340 ∧ b309 ∉ ownB h340 ∧ (∀ x ∈ ownB h338, x ∉ ownB h340) ∧ (∀ x ∈ ownB h339, x ∉ ownB h340) ∧ (∀ x ∈ ownB h341, x ∉ L) ∧ (∀ x ∈ ownB h341, x ∈ (ob1 :: (ownB hp1_0 ++ (ob2 :: (ownB hp2_0 ++ [])))) ∨ w.heap.size ≤ x) ∧ ob1 ∉ ownB h341 ∧ ob2 ∉ ownB h341 ∧ b164 ∉ ownB h341 ∧ b309 ∉ ownB h341 ∧ (∀ x ∈ ownB h338, x ∉ ownB h341) ∧ (∀ x ∈ ownB h339, x ∉ ownB h341) ∧ (∀ x ∈ ownB h340, x ∉ ownB h341) ∧ micro_Step.l0 x0 k' i327 i328 i329 i330 i331 i332 i333 i334 i335 i336 = some r)) rfl ⟨x0, x3, t274, [], 0, x1.l, x1.most, x2.l, x2.now, 0, hp0, v279, (.slice none 0 0), hp1_0, hp2_0, p325.z, s342, s343, s344, s345, s346, s347, s348, s326, m349, m350, m351, m311, (q352.mono ((Tr.refl _ _).sub (fun i h => (List.mem_append.1 h).elim (fun h => (.tail _ (List.mem_append_left _ h))) (fun h => (List.mem_append.1 h).elim (fun h => nilO h) (fun h => (List.mem_append.1 h).elim (fun h => (.tail _ (List.mem_append_right _ (.tail _ (.tail _ (List.mem_append_left _ h)))))) (fun h => (List.mem_append.1 h).elim (fun h => (.tail _ (List.mem_append_right _ (.tail _ (.tail _ (List.mem_append_right _ (.tail _ (List.mem_append_left _ h)))))))) (fun h => (List.mem_cons.1 h).elim (fun e => e ▸ (.head _)) (fun h => (List.mem_cons.1 h).elim (fun e => e ▸ (.tail _ (List.mem_append_right _ (.head _)))) (fun h => (List.mem_cons.1 h).elim (fun e => e ▸ (.tail _ (List.mem_append_right _ (.tail _ (.head _))))) (fun h => (List.mem_cons.1 h).elim (fun e => e ▸ (.tail _ (List.mem_append_right _ (.tail _ (.tail _ (List.mem_append_right _ (.head _))))))) (fun h => (.tail _ (List.mem_append_right _ (.tail _ (.tail _ (List.mem_append_right _ (.tail _ (List.mem_append_right _ h)))))))))))))))))), (q353.sub (fun i h => (List.mem_append.1 h).elim (fun h => (.tail _ (List.mem_append_left _ h))) (fun h => (List.mem_append.1 h).elim (fun h => nilO h) (fun h => (List.mem_append.1 h).elim (fun h => (.tail _ (List.mem_append_right _ (.tail _ (.tail _ (List.mem_append_left _ h)))))) (fun h => (List.mem_append.1 h).elim (fun h => (.tail _ (List.mem_append_right _ (.tail _ (.tail _ (List.mem_append_right _ (.tail _ (List.mem_append_left _ h)))))))) (fun h => (List.mem_cons.1 h).elim (fun e => e ▸ (.head _)) (fun h => (List.mem_cons.1 h).elim (fun e => e ▸ (.tail _ (List.mem_append_right _ (.head _)))) (fun h => (List.mem_cons.1 h).elim (fun e => e ▸ (.tail _ (List.mem_append_right _ (.tail _ (.head _))))) (fun h => (List.mem_cons.1 h).elim (fun e => e ▸ (.tail _ (List.mem_append_right _ (.tail _ (.tail _ (List.mem_append_right _ (.head _))))))) (fun h => (.tail _ (List.mem_append_right _ (.tail _ (.tail _ (List.mem_append_right _ (.tail _ (List.mem_append_right _ h))))))))))))))))), (q354.sub (fun i h => (List.mem_append.1 h).elim (fun h => (.tail _ (List.mem_append_left _ h))) (fun h => (List.mem_append.1 h).elim (fun h => nilO h) (fun h => (List.mem_append.1 h).elim (fun h => (.tail _ (List.mem_append_right _ (.tail _ (.tail _ (List.mem_append_left _ h)))))) (fun h => (List.mem_append.1 h).elim (fun h => (.tail _ (List.mem_append_right _ (.tail _ (.tail _ (List.mem_append_right _ (.tail _ (List.mem_append_left _ h)))))))) (fun h => (List.mem_cons.1 h).elim (fun e => e ▸ (.head _)) (fun h => (List.mem_cons.1 h).elim (fun e => e ▸ (.tail _ (List.mem_append_right _ (.head _)))) (fun h => (List.mem_cons.1 h).elim (fun e => e ▸ (.tail _ (List.mem_append_right _ (.tail _ (.head _))))) (fun h => (List.mem_cons.1 h).elim (fun e => e ▸ (.tail _ (List.mem_append_right _ (.tail _ (.tail _ (List.mem_append_right _ (.head _))))))) (fun h => (.tail _ (List.mem_append_right _ (.tail _ (.tail _ (List.mem_append_right _ (.tail _ (List.mem_append_right _ h))))))))))))))))), (q352.mono ((Tr.refl _ _).sub (fun i h => (List.mem_append.1 h).elim (fun h => (.tail _ (List.mem_append_left _ h))) (fun h => (List.mem_append.1 h).elim (fun h => nilO h) (fun h => (List.mem_append.1 h).elim (fun h => (.tail _ (List.mem_append_right _ (.tail _ (.tail _ (List.mem_append_left _ h)))))) (fun h => (List.mem_append.1 h).elim (fun h => (.tail _ (List.mem_append_right _ (.tail _ (.tail _ (List.mem_append_right _ (.tail _ (List.mem_append_left _ h)))))))) (fun h => (List.mem_cons.1 h).elim (fun e => e ▸ (.head _)) (fun h => (List.mem_cons.1 h).elim (fun e => e ▸ (.tail _ (List.mem_append_right _ (.head _)))) (fun h => (List.mem_cons.1 h).elim (fun e => e ▸ (.tail _ (List.mem_append_right _ (.tail _ (.head _))))) (fun h => (List.mem_cons.1 h).elim (fun e => e ▸ (.tail _ (List.mem_append_right _ (.tail _ (.tail _ (List.mem_append_right _ (.head _))))))) (fun h => (.tail _ (List.mem_append_right _ (.tail _ (.tail _ (List.mem_append_right _ (.tail _ (List.mem_append_right _ h)))))))))))))))))), (q355.sub (fun i h => (List.mem_append.1 h).elim (fun h => (.tail _ (List.mem_append_left _ h))) (fun h => (List.mem_append.1 h).elim (fun h => nilO h) (fun h => (List.mem_append.1 h).elim (fun h => (.tail _ (List.mem_append_right _ (.tail _ (.tail _ (List.mem_append_left _ h)))))) (fun h => (List.mem_append.1 h).elim (fun h => (.tail _ (List.mem_append_right _ (.tail _ (.tail _ (List.mem_append_right _ (.tail _ (List.mem_append_left _ h)))))))) (fun h => (List.mem_cons.1 h).elim (fun e => e ▸ (.head _)) (fun h => (List.mem_cons.1 h).elim (fun e => e ▸ (.tail _ (List.mem_append_right _ (.head _)))) (fun h => (List.mem_cons.1 h).elim (fun e => e ▸ (.tail _ (List.mem_append_right _ (.tail _ (.head _))))) (fun h => (List.mem_cons.1 h).elim (fun e => e ▸ (.tail _ (List.mem_append_right _ (.tail _ (.tail _ (List.mem_append_right _ (.head _))))))) (fun h => (.tail _ (List.mem_append_right _ (.tail _ (.tail _ (List.mem_append_right _ (.tail _ (List.mem_append_right _ h))))))))))))))))), OwnS.nil, (cx319.sub (fun i h => (List.mem_append.1 h).elim (fun h => (.tail _ (List.mem_append_left _ h))) (fun h => (List.mem_append.1 h).elim (fun h => nilO h) (fun h => (List.mem_append.1 h).elim (fun h => (.tail _ (List.mem_append_right _ (.tail _ (.tail _ (List.mem_append_left _ h)))))) (fun h => (List.mem_append.1 h).elim (fun h => (.tail _ (List.mem_append_right _ (.tail _ (.tail _ (List.mem_append_right _ (.tail _ (List.mem_append_left _ h)))))))) (fun h => (List.mem_cons.1 h).elim (fun e => e ▸ (.head _)) (fun h => (List.mem_cons.1 h).elim (fun e => e ▸ (.tail _ (List.mem_append_right _ (.head _)))) (fun h => (List.mem_cons.1 h).elim (fun e => e ▸ (.tail _ (List.mem_append_right _ (.tail _ (.head _))))) (fun h => (List.mem_cons.1 h).elim (fun e => e ▸ (.tail _ (List.mem_append_right _ (.tail _ (.tail _ (List.mem_append_right _ (.head _))))))) (fun h => (.tail _ (List.mem_append_right _ (.tail _ (.tail _ (List.mem_append_right _ (.tail _ (List.mem_append_right _ h))))))))))))))))), nb289, sf290, n291, n292, n293, (q281.nb e313), (fun _ h => nilO h), (fun _ h => nilO h), (fun h => nilO h), (fun h => nilO h), (fun h => nilO h), (fun h => nilO h), (fun _ _ h => nilO h), (D.dl (i := 1) rfl), (fun _ h => .inl (.tail _ (List.mem_append_left _ h))), (D.bo (i := 0) (j := 1) rfl rfl rfl), (D.ob (i := 1) (j := 2) rfl rfl rfl), (q171.nb e168), (q317.nb e313), (djs n294), (fun _ h => nilO h), (D.dl (i := 3) rfl), (fun _ h => .inl (.tail _ (List.mem_append_right _ (.tail _ (List.mem_append_left _ h))))), (D.bo (i := 0) (j := 3) rfl rfl rfl), (D.bo (i := 2) (j := 3) rfl rfl rfl), (q172.nb e168), (q318.nb e313), (djs n295), (fun _ h => nilO h), (D.dj (i := 1) (j := 3) rfl rfl rfl), h⟩ ?_
 clear h
 rintro k356 a357 w358 ⟨i327, i328, i329, i330, i331, i332, i333, i334, i335, i336, h337, h338, h339, h340, h341, z359, s360, s361, s362, s363, s364, s365, s366, s367, m368, m369, m370, m371, q372, q373, q374, q375, q376, q377, cx378, n379, n380, n381, n382, n383, n384, n385, n386, n387, n388, n389, n390, n391, n392, n393, n394, n395, n396, n397, n398, n399, n400, n401, n402, n403, n404, n405, n406, n407, n408, h⟩
 obtain _ | k := k356
 case zero => cases h
 rw [micro_Step.l0] at h
 refine wp_seq ?_
 refine regS mixed (by kernel_rfl) ?_
 have g409 := G.drew w358
 have cx410 := cx378.ca g409
 refine t1 z359 (okMv s366) rfl fun a411 p412 s413 => ?_
 refine t1 p412.z (okNil s413) rfl fun a414 p415 s416 => ?_
 refine t1 p415.z (okFA (o' := 4) fo68_4 s416 rfl) rfl fun a417 p418 s419 => ?_
 have m420 := m371.g0 g409
 refine t1 p418.z (okLd (j := 4) na30 s419 (m420.cl) rfl rfl) rfl fun a421 p422 s423 => ?_
 have s424 := p422.o (p418.o (p415.o (p412.o s366 rfl) rfl) rfl) rfl
 refine t1 p422.z (okMv s424) rfl fun a425 p426 s427 => ?_
 refine t1 p426.z (okNil s427) rfl fun a428 p429 s430 => ?_
 refine t1 p429.z (okFA (o' := 4) fo68_4 s430 rfl) rfl fun a431 p432 s433 => ?_
 refine t1 p432.z (okLd (j := 4) na30 s433 (m420.cl) rfl rfl) rfl fun a434 p435 s436 => ?_
 have q437 := q376.t0 g409.t0 g409
 refine t1 p435.z (okLenO (E2 := 66) Try.underlying30 s436 q437) rfl fun a438 p439 s440 => ?_
 refine t1 p439.z (okSub s440 cst) rfl fun a441 p442 s443 => ?_
 have s444 := p442.o (p439.o (p435.o (p432.o (p429.o (p426.o s423 rfl) rfl) rfl) rfl) rfl) rfl
 obtain ⟨y445, hy446, h⟩ := Option.bind_eq_some_iff.1 h
 obtain ⟨b447, cs449, r451, e452, nb453, k450⟩ := q437.at_ hy446
 obtain rfl := r451
 refine t1 p442.z (k450 Try.underlying30 Try.sizeOf66 s444 s443 _) rfl fun a454 p455 s456 => ?_
 refine t1 p455.z (okFA (o' := (w64 ((i329.length : Int) - 1)).toNat * 17) fo66_0 s456 rfl) rfl fun a457 p458 s459 => ?_
 refine t1 p458.z (okLd (j := 0) na3 s459 e452 rfl rfl) rfl fun a460 p461 s462 => ?_
 refine t1 p461.z (okAs s462) rfl fun a463 p464 s465 => ?_
 refine tN (thenN ?_)
 refine wp_seq ?_
 refine wp_block ?_
 refine wp_seq ?_
 refine reg ?_
 refine s1 p464.z (okMv s465) rfl fun a466 p467 s468 => ?_
 refine s1 p467.z (okLt s468 cst) rfl fun a469 p470 s471 => ?_
 refine s1 p470.z (okMv s471) rfl fun a472 p473 s474 => ?_
 refine cutP 5 (fun a' => Pg Try.f10.ntmps [76, 77, 78, 79, 80] a472 a' ∧ a'.eval (.tmp 80) = .bool ((decide (y445.at_ < 0)) || (decide ((x0.length : Int) ≤ y445.at_)))) ?_ ?_
 ·rcases bf (decide (y445.at_ < 0)) with hb475 | hb475
  ·have s476 := bv s474 hb475
   have s477 := p473.o (p470.o (p467.o s465 rfl) rfl) rfl
   refine s1g p473.z (okMv s477) rfl (yd p473.z rfl rfl s476) fun a478 p479 s480 => ?_
   have s481 := p479.o s476 rfl
   have s482 := p479.o (p473.o (p470.o (p467.o (p464.o (p461.o (p458.o (p455.o (p442.o (p439.o (p435.o (p432.o (p429.o (p426.o (p422.o (p418.o (p415.o (p412.o s360 rfl) rfl) rfl) rfl) rfl) rfl) rfl) rfl) rfl) rfl) rfl) rfl) rfl) rfl) rfl) rfl) rfl) rfl
   refine s1g p479.z (okMv s482) rfl (yd p479.z rfl rfl s481) fun a483 p484 s485 => ?_
   have s486 := p484.o s481 rfl
   have q487 := q372.mono g409.t0
   refine s1g p484.z (okLenR Try.underlying22 s485 q487) rfl (yd p484.z rfl rfl s486) fun a488 p489 s490 => ?_
   have s491 := p489.o s486 rfl
   have s492 := p489.o (p484.o s480 rfl) rfl
   refine s1g p489.z (okGe s492 s490) rfl (yd p489.z rfl rfl s491) fun a493 p494 s495 => ?_
   have s496 := p494.o s491 rfl
   refine s1 p494.z (okPickF s496 s495) rfl fun a497 p498 s499 => ?_
   exact rN ⟨rfl, rfl, ((((((Pg.refl p473.z).st p479 rfl).st p484 rfl).st p489 rfl).st p494 rfl).st p498 rfl), (orF hb475 s499)⟩
  ·have s500 := bv s474 hb475
   refine s1k p473.z rfl (yd p473.z rfl rfl s500) rfl fun a501 p502 s503 => ?_
   have s504 := p502.o s500 rfl
   refine s1k p502.z rfl (yd p502.z rfl rfl s504) rfl fun a505 p506 s507 => ?_
   have s508 := p506.o s504 rfl
   refine s1k p506.z rfl (yd p506.z rfl rfl s508) rfl fun a509 p510 s511 => ?_
   have s512 := p510.o s508 rfl
   refine s1k p510.z rfl (yd p510.z rfl rfl s512) rfl fun a513 p514 s515 => ?_
   have s516 := p514.o s512 rfl
   refine s1 p514.z (okPickT s516 cst) rfl fun a517 p518 s519 => ?_
   exact rN ⟨rfl, rfl, ((((((Pg.refl p473.z).st p502 rfl).st p506 rfl).st p510 rfl).st p514 rfl).st p518 rfl), (orT hb475 s519)⟩
 rintro a520 ⟨pg521, s522⟩
 refine s1 pg521.z (okMv s522) rfl fun a523 p524 s525 => ?_
 refine cutP 3 (fun a' => Pg Try.f10.ntmps [82, 83, 84] a523 a' ∧ a'.eval (.tmp 84) = .bool (((decide (y445.at_ < 0)) || (decide ((x0.length : Int) ≤ y445.at_))) || (decide (200 ≤ i336)))) ?_ ?_
 ·rcases bf ((decide (y445.at_ < 0)) || (decide ((x0.length : Int) ≤ y445.at_))) with hb526 | hb526
  ·have s527 := bv s525 hb526
   have s528 := p524.o (pg521.o (p473.o (p470.o (p467.o (p464.o (p461.o (p458.o (p455.o (p442.o (p439.o (p435.o (p432.o (p429.o (p426.o (p422.o (p418.o (p415.o (p412.o s367 rfl) rfl) rfl) rfl) rfl) rfl) rfl) rfl) rfl) rfl) rfl) rfl) rfl) rfl) rfl) rfl) rfl) rfl) rfl
   refine s1g p524.z (okMv s528) rfl (yd p524.z rfl rfl s527) fun a529 p530 s531 => ?_
   have s532 := p530.o s527 rfl
   refine s1g p530.z (okGe s531 cst) rfl (yd p530.z rfl rfl s532) fun a533 p534 s535 => ?_
   have s536 := p534.o s532 rfl
   refine s1 p534.z (okPickF s536 s535) rfl fun a537 p538 s539 => ?_
   exact rN ⟨rfl, rfl, ((((Pg.refl p524.z).st p530 rfl).st p534 rfl).st p538 rfl), (orF hb526 s539)⟩
  ·have s540 := bv s525 hb526
   refine s1k p524.z rfl (yd p524.z rfl rfl s540) rfl fun a541 p542 s543 => ?_
   have s544 := p542.o s540 rfl
   refine s1k p542.z rfl (yd p542.z rfl rfl s544) rfl fun a545 p546 s547 => ?_
   have s548 := p546.o s544 rfl
   refine s1 p546.z (okPickT s548 cst) rfl fun a549 p550 s551 => ?_
   exact rN ⟨rfl, rfl, ((((Pg.refl p524.z).st p542 rfl).st p546 rfl).st p550 rfl), (orT hb526 s551)⟩
 rintro a552 ⟨pg553, s554⟩
 refine s1 pg553.z (okMv s554) rfl fun a555 p556 s557 => ?_
 obtain ⟨b558, hb559, h⟩ := Option.bind_eq_some_iff.1 h
 refine cutL 7 (fun a' w' => Pg Try.f10.ntmps [86, 87, 88, 89, 90, 91, 92] a555 a' ∧ a'.eval (.tmp 92) = .bool b558 ∧ G [] w358.drew w') ?_ ?_
 ·rcases bf (((decide (y445.at_ < 0)) || (decide ((x0.length : Int) ≤ y445.at_))) || (decide (200 ≤ i336))) with hb560 | hb560
  ·have s561 := bv s557 hb560
   replace hb559 := (ifN hb560).symm.trans hb559
   clear h; have h := hb559; clear hb559
   have s562 := p556.o (pg553.o (p524.o (pg521.o (p473.o (p470.o (p467.o (p464.o (p461.o (p458.o (p455.o (p442.o (p439.o (p435.o (p432.o (p429.o (p426.o (p422.o (p418.o (p415.o (p412.o s360 rfl) rfl) rfl) rfl) rfl) rfl) rfl) rfl) rfl) rfl) rfl) rfl) rfl) rfl) rfl) rfl) rfl) rfl) rfl) rfl) rfl
   refine s1g p556.z (okMv s562) rfl (yd p556.z rfl rfl s561) fun a563 p564 s565 => ?_
   have s566 := p564.o s561 rfl
   have s567 := p564.o (p556.o (pg553.o (p524.o (pg521.o (p473.o (p470.o (p467.o s465 rfl) rfl) rfl) rfl) rfl) rfl) rfl) rfl
   refine s1g p564.z (okMv s567) rfl (yd p564.z rfl rfl s566) fun a568 p569 s570 => ?_
   have s571 := p569.o s566 rfl
   have s572 := p569.o s565 rfl
   have q573 := q372.mono g409.t0
   obtain ⟨y574, hy575, h⟩ := Option.bind_eq_some_iff.1 h
   obtain ⟨b576, o577, cs578, r580, e581, nb582, k579⟩ := q573.at_ hy575
   obtain rfl := r580
   refine s1g p569.z (k579 Try.underlying22 Try.sizeOf40 s572 s570 _) rfl (yd p569.z rfl rfl s571) fun a583 p584 s585 => ?_
   have s586 := p584.o s571 rfl
   refine s1g p584.z (okLdA ag40 s585 e581 rfl rfl whole) rfl (yd p584.z rfl rfl s586) fun a587 p588 s589 => ?_
   have s590 := p588.o s586 rfl
   obtain ⟨t591, ht592, h⟩ := Option.bind_eq_some_iff.1 h
   refine lG rfl (yd p588.z rfl rfl s590) (oCall p588.z Try.call24 (ag1 s589) (c24 k (ownB h338 ++ (ownB h339 ++ (ownB h340 ++ (ownB h341 ++ (b309 :: b164 :: ob1 :: ob2 :: L))))) w358.drew cx410.lt _ _ ht592) rfl fun v596 a593 w594 hp597 p595 sp595 => ?_)
   obtain ⟨rfl, g598⟩ := hp597
   have cx599 := cx410.ca g598
   have s600 := p595.o s590 rfl
   refine s1g p595.z (okNot sp595) rfl (yd p595.z rfl rfl s600) fun a601 p602 s603 => ?_
   have s604 := p602.o s600 rfl
   refine s1 p602.z (okPickF s604 s603) rfl fun a605 p606 s607 => ?_
   obtain rfl := Option.some.inj h
   exact rN ⟨rfl, ((((((((Pg.refl p556.z).st p564 rfl).st p569 rfl).st p584 rfl).st p588 rfl).st p595 rfl).st p602 rfl).st p606 rfl), s607, g598⟩
  ·have s608 := bv s557 hb560
   replace hb559 := (ifP hb560).symm.trans hb559
   clear h; have h := hb559; clear hb559
   refine s1k p556.z rfl (yd p556.z rfl rfl s608) rfl fun a609 p610 s611 => ?_
   have s612 := p610.o s608 rfl
   refine s1k p610.z rfl (yd p610.z rfl rfl s612) rfl fun a613 p614 s615 => ?_
   have s616 := p614.o s612 rfl
   refine s1k p614.z rfl (yd p614.z rfl rfl s616) rfl fun a617 p618 s619 => ?_
   have s620 := p618.o s616 rfl
   refine s1k p618.z rfl (yd p618.z rfl rfl s620) rfl fun a621 p622 s623 => ?_
   have s624 := p622.o s620 rfl
   refine s1k p622.z rfl (yd p622.z rfl rfl s624) rfl fun a625 p626 s627 => ?_
   have s628 := p626.o s624 rfl
   refine s1k p626.z rfl (yd p626.z rfl rfl s628) rfl fun a629 p630 s631 => ?_
   have s632 := p630.o s628 rfl
   refine s1 p630.z (okPickT s632 cst) rfl fun a633 p634 s635 => ?_
   obtain rfl := Option.some.inj h
   exact rN ⟨rfl, ((((((((Pg.refl p556.z).st p610 rfl).st p614 rfl).st p618 rfl).st p622 rfl).st p626 rfl).st p630 rfl).st p634 rfl), s635, (G.refl _ _)⟩
 rintro a636 w639 ⟨pg637, s638, g640⟩
 have cx641 := cx410.ca g640
 refine s1 pg637.z (okAs s638) rfl fun a642 p643 s644 => ?_
 refine rN (thenN ?_)
 have s645 := p643.o (pg637.o (p556.o (pg553.o (p524.o (pg521.o (p473.o (p470.o (p467.o (p464.o (p461.o (p458.o (p455.o (p442.o (p439.o (p435.o (p432.o (p429.o (p426.o s424 rfl) rfl) rfl) rfl) rfl) rfl) rfl) rfl) rfl) rfl) rfl) rfl) rfl) rfl) rfl) rfl) rfl) rfl) rfl
 have s646 := p643.o (pg637.o (p556.o (pg553.o (p524.o (pg521.o (p473.o (p470.o (p467.o (p464.o (p461.o (p458.o (p455.o (p442.o (p439.o (p435.o (p432.o (p429.o (p426.o (p422.o (p418.o (p415.o s413 rfl) rfl) rfl) rfl) rfl) rfl) rfl) rfl) rfl) rfl) rfl) rfl) rfl) rfl) rfl) rfl) rfl) rfl) rfl) rfl) rfl) rfl
 have s647 := p643.o (pg637.o (p556.o (pg553.o (p524.o (pg521.o (p473.o (p470.o (p467.o (p464.o (p461.o (p458.o (p455.o (p442.o (p439.o (p435.o (p432.o (p429.o (p426.o (p422.o (p418.o s416 rfl) rfl) rfl) rfl) rfl) rfl) rfl) rfl) rfl) rfl) rfl) rfl) rfl) rfl) rfl) rfl) rfl) rfl) rfl) rfl) rfl
 have s648 := p643.o (pg637.o (p556.o (pg553.o (p524.o (pg521.o (p473.o (p470.o (p467.o (p464.o (p461.o (p458.o (p455.o (p442.o (p439.o (p435.o (p432.o (p429.o (p426.o (p422.o s419 rfl) rfl) rfl) rfl) rfl) rfl) rfl) rfl) rfl) rfl) rfl) rfl) rfl) rfl) rfl) rfl) rfl) rfl) rfl) rfl
 have s649 := p643.o (pg637.o (p556.o (pg553.o (p524.o (pg521.o (p473.o (p470.o (p467.o (p464.o (p461.o (p458.o (p455.o s444 rfl) rfl) rfl) rfl) rfl) rfl) rfl) rfl) rfl) rfl) rfl) rfl) rfl
 have s650 := p643.o (pg637.o (p556.o (pg553.o (p524.o (pg521.o (p473.o (p470.o (p467.o (p464.o (p461.o (p458.o (p455.o (p442.o (p439.o (p435.o (p432.o (p429.o s427 rfl) rfl) rfl) rfl) rfl) rfl) rfl) rfl) rfl) rfl) rfl) rfl) rfl) rfl) rfl) rfl) rfl) rfl
 have s651 := p643.o (pg637.o (p556.o (pg553.o (p524.o (pg521.o (p473.o (p470.o (p467.o (p464.o (p461.o (p458.o (p455.o (p442.o (p439.o (p435.o (p432.o s430 rfl) rfl) rfl) rfl) rfl) rfl) rfl) rfl) rfl) rfl) rfl) rfl) rfl) rfl) rfl) rfl) rfl
 have s652 := p643.o (pg637.o (p556.o (pg553.o (p524.o (pg521.o (p473.o (p470.o (p467.o (p464.o (p461.o (p458.o (p455.o (p442.o (p439.o (p435.o s433 rfl) rfl) rfl) rfl) rfl) rfl) rfl) rfl) rfl) rfl) rfl) rfl) rfl) rfl) rfl) rfl
 have s653 := p643.o (pg637.o (p556.o (pg553.o (p524.o (pg521.o (p473.o (p470.o (p467.o (p464.o (p461.o (p458.o (p455.o (p442.o (p439.o s436 rfl) rfl) rfl) rfl) rfl) rfl) rfl) rfl) rfl) rfl) rfl) rfl) rfl) rfl) rfl
 have s654 := p643.o (pg637.o (p556.o (pg553.o (p524.o (pg521.o (p473.o (p470.o (p467.o (p464.o (p461.o (p458.o (p455.o (p442.o s440 rfl) rfl) rfl) rfl) rfl) rfl) rfl) rfl) rfl) rfl) rfl) rfl) rfl) rfl
 have s655 := p643.o (pg637.o (p556.o (pg553.o (p524.o (pg521.o (p473.o (p470.o (p467.o (p464.o (p461.o (p458.o (p455.o s443 rfl) rfl) rfl) rfl) rfl) rfl) rfl) rfl) rfl) rfl) rfl) rfl) rfl
 have s656 := p643.o (pg637.o (p556.o (pg553.o (p524.o (pg521.o (p473.o (p470.o (p467.o (p464.o (p461.o (p458.o s456 rfl) rfl) rfl) rfl) rfl) rfl) rfl) rfl) rfl) rfl) rfl) rfl
 have s657 := p643.o (pg637.o (p556.o (pg553.o (p524.o (pg521.o (p473.o (p470.o (p467.o (p464.o (p461.o s459 rfl) rfl) rfl) rfl) rfl) rfl) rfl) rfl) rfl) rfl) rfl
 have s658 := p643.o (pg637.o (p556.o (pg553.o (p524.o (pg521.o (p473.o (p470.o (p467.o (p464.o s462 rfl) rfl) rfl) rfl) rfl) rfl) rfl) rfl) rfl) rfl
 have s659 := p643.o (pg637.o (p556.o (pg553.o (p524.o (pg521.o (p473.o (p470.o (p467.o s465 rfl) rfl) rfl) rfl) rfl) rfl) rfl) rfl) rfl
 have s660 := p643.o (pg637.o (p556.o (pg553.o (p524.o (pg521.o (p473.o (p470.o s468 rfl) rfl) rfl) rfl) rfl) rfl) rfl) rfl
 have s661 := p643.o (pg637.o (p556.o (pg553.o (p524.o (pg521.o (p473.o s471 rfl) rfl) rfl) rfl) rfl) rfl) rfl
 have s662 := p643.o (pg637.o (p556.o (pg553.o (p524.o (pg521.o s474 rfl) rfl) rfl) rfl) rfl) rfl
 have s663 := p643.o (pg637.o (p556.o (pg553.o (p524.o s522 rfl) rfl) rfl) rfl) rfl
 have s664 := p643.o (pg637.o (p556.o (pg553.o s525 rfl) rfl) rfl) rfl
 have s665 := p643.o (pg637.o (p556.o s554 rfl) rfl) rfl
 have s666 := p643.o (pg637.o s557 rfl) rfl
 have s667 := p643.o s638 rfl
 have pg668 : Pg _ [19, 59, 60, 61, 62, 63, 64, 65, 66, 67, 68, 69, 70, 71, 72, 73, 74, 75, 76, 77, 78, 79, 80, 81, 82, 83, 84, 85, 86, 87, 88, 89, 90, 91, 92] _ _ := ((((((((((((((((((((((((Pg.refl z359).st p412 rfl).st p415 rfl).st p418 rfl).st p422 rfl).st p426 rfl).st p429 rfl).st p432 rfl).st p435 rfl).st p439 rfl).st p442 rfl).st p455 rfl).st p458 rfl).st p461 rfl).st p464 rfl).st p467 rfl).st p470 rfl).st p473 rfl).tr pg521 rfl).st p524 rfl).tr pg553 rfl).st p556 rfl).tr pg637 rfl).st p643 rfl)
 refine cnd s644 (fun hb669 => ?_) (fun hb669 => ?_)
 ·replace h := (ifP hb669).symm.trans h
  refine wp_seq ?_
  refine regS mixed (by kernel_rfl) ?_
  have g670 := G.drew w639
  have cx671 := cx641.ca g670
  refine t1 pg668.z (okMv s645) rfl fun a672 p673 s674 => ?_
  refine t1 p673.z (okNil s674) rfl fun a675 p676 s677 => ?_
  refine t1 p676.z (okFA (o' := 4) fo68_4 s677 rfl) rfl fun a678 p679 s680 => ?_
  have m681 := (m420.g0 g640).g0 g670
  refine t1 p679.z (okLd (j := 4) na30 s680 (m681.cl) rfl rfl) rfl fun a682 p683 s684 => ?_
  have s685 := p683.o (p679.o (p676.o (p673.o s645 rfl) rfl) rfl) rfl
  refine t1 p683.z (okMv s685) rfl fun a686 p687 s688 => ?_
  refine t1 p687.z (okNil s688) rfl fun a689 p690 s691 => ?_
  refine t1 p690.z (okFA (o' := 5) fo68_5 s691 rfl) rfl fun a692 p693 s694 => ?_
  refine t1 p693.z (okLd (j := 5) na31 s694 (m681.cl) rfl rfl) rfl fun a695 p696 s697 => ?_
  have s698 := p696.o (p693.o (p690.o (p687.o s684 rfl) rfl) rfl) rfl
  refine t1 p696.z (okAs s698) rfl fun a699 p700 s701 => ?_
  have s702 := p700.o s697 rfl
  refine t1 p700.z (okAs s702) rfl fun a703 p704 s705 => ?_
  refine t1 p704.z (okAs cst) rfl fun a706 p707 s708 => ?_
  refine t1 p707.z (okAs cst) rfl fun a709 p710 s711 => ?_
  refine t1 p710.z (okAs cst) rfl fun a712 p713 s714 => ?_
  refine tN (thenN ?_)
  have s715 := p713.o (p710.o (p707.o (p704.o s701 rfl) rfl) rfl) rfl
  have s716 := p713.o (p710.o (p707.o s705 rfl) rfl) rfl
  have s717 := p713.o (p710.o s708 rfl) rfl
  have s718 := p713.o s711 rfl
  obtain rfl := Option.some.inj h
  have q719 := (q437.t0 g640.t0 g640).t0 g670.t0 g670
  have q720 := ((q377.t0 g409.t0 g409).t0 g640.t0 g640).t0 g670.t0 g670
  have m721 := ((m368.g0 g409).g0 g640).g0 g670
  have q722 := ((q373.t0 g409.t0 g409).t0 g640.t0 g640).t0 g670.t0 g670
  have m723 := ((m369.g0 g409).g0 g640).g0 g670
  have q724 := ((q374.t0 g409.t0 g409).t0 g640.t0 g640).t0 g670.t0 g670
  exact wp_ret (blkR (thenR (jumpR (ret5 p713.z Try.results10 (rvT s715) (rvT s716) (rvT s717) (rvT s718) (rvT s714) ⟨_, rfl, h338, h339, .nilIface, h340, h341, rfl, (q719.rd (fun i h => (List.mem_cons.1 h).elim (fun e => e ▸ (List.mem_append_right _ (List.mem_append_right _ (List.mem_append_right _ (List.mem_append_right _ (.tail _ (.tail _ (.head _)))))))) (fun h => (List.mem_append.1 h).elim (fun h => (List.mem_append_right _ (List.mem_append_right _ (List.mem_append_left _ h)))) (fun h => (List.mem_cons.1 h).elim (fun e => e ▸ (List.mem_append_right _ (List.mem_append_right _ (List.mem_append_right _ (List.mem_append_right _ (.tail _ (.tail _ (.tail _ (.head _))))))))) (fun h => (List.mem_append.1 h).elim (fun h => (List.mem_append_right _ (List.mem_append_right _ (List.mem_append_right _ (List.mem_append_left _ h))))) (fun h => (List.mem_append_right _ (List.mem_append_right _ (List.mem_append_right _ (List.mem_append_right _ (.tail _ (.tail _ (.tail _ (.tail _ h))))))))))))) (fun x hx => (nc (nbo n381 hx) (na (n398 x hx) (nc (nbo n382 hx) (na (n406 x hx) (n379 x hx))))))), (q720.rd (fun i h => (List.mem_cons.1 h).elim (fun e => e ▸ (List.mem_append_right _ (List.mem_append_right _ (List.mem_append_right _ (List.mem_append_right _ (.tail _ (.tail _ (.head _)))))))) (fun h => (List.mem_append.1 h).elim (fun h => (List.mem_append_right _ (List.mem_append_right _ (List.mem_append_left _ h)))) (fun h => (List.mem_cons.1 h).elim (fun e => e ▸ (List.mem_append_right _ (List.mem_append_right _ (List.mem_append_right _ (List.mem_append_right _ (.tail _ (.tail _ (.tail _ (.head _))))))))) (fun h => (List.mem_append.1 h).elim (fun h => (List.mem_append_right _ (List.mem_append_right _ (List.mem_append_right _ (List.mem_append_left _ h))))) (fun h => (List.mem_append_right _ (List.mem_append_right _ (List.mem_append_right _ (List.mem_append_right _ (.tail _ (.tail _ (.tail _ (.tail _ h))))))))))))) (fun x hx => (nc (nbo n387 hx) (na (n399 x hx) (nc (nbo n388 hx) (na (n407 x hx) (n385 x hx))))))), ErG.nil, m721, (q722.sub (fun i h => (List.mem_cons.1 h).elim (fun e => e ▸ (List.mem_append_right _ (List.mem_append_right _ (List.mem_append_right _ (List.mem_append_right _ (.tail _ (.tail _ (.head _)))))))) (fun h => (List.mem_append.1 h).elim (fun h => (List.mem_append_right _ (List.mem_append_right _ (List.mem_append_left _ h)))) (fun h => (List.mem_cons.1 h).elim (fun e => e ▸ (List.mem_append_right _ (List.mem_append_right _ (List.mem_append_right _ (List.mem_append_right _ (.tail _ (.tail _ (.tail _ (.head _))))))))) (fun h => (List.mem_append.1 h).elim (fun h => (List.mem_append_right _ (List.mem_append_right _ (List.mem_append_right _ (List.mem_append_left _ h))))) (fun h => (List.mem_append_right _ (List.mem_append_right _ (List.mem_append_right _ (List.mem_append_right _ (.tail _ (.tail _ (.tail _ (.tail _ h)))))))))))))), m723, (q724.sub (fun i h => (List.mem_cons.1 h).elim (fun e => e ▸ (List.mem_append_right _ (List.mem_append_right _ (List.mem_append_right _ (List.mem_append_right _ (.tail _ (.tail _ (.head _)))))))) (fun h => (List.mem_append.1 h).elim (fun h => (List.mem_append_right _ (List.mem_append_right _ (List.mem_append_left _ h)))) (fun h => (List.mem_cons.1 h).elim (fun e => e ▸ (List.mem_append_right _ (List.mem_append_right _ (List.mem_append_right _ (List.mem_append_right _ (.tail _ (.tail _ (.tail _ (.head _))))))))) (fun h => (List.mem_append.1 h).elim (fun h => (List.mem_append_right _ (List.mem_append_right _ (List.mem_append_right _ (List.mem_append_left _ h))))) (fun h => (List.mem_append_right _ (List.mem_append_right _ (List.mem_append_right _ (List.mem_append_right _ (.tail _ (.tail _ (.tail _ (.tail _ h)))))))))))))), (sepC (show ∀ x ∈ [ob1], x ∉ (ownB h340 ++ (ob2 :: (ownB h341 ++ L))) from (in1 (na n394 (nc (D.bb (i := 0) (j := 2) rfl rfl rfl) (na n402 (D.bl (i := 0) rfl)))))) (sepC (show ∀ x ∈ ownB h340, x ∉ (ob2 :: (ownB h341 ++ L)) from (fun x hx => (nc (nbo n395 hx) (na (n408 x hx) (n392 x hx))))) (sepC (show ∀ x ∈ [ob2], x ∉ (ownB h341 ++ L) from (in1 (na n403 (D.bl (i := 2) rfl)))) (sepC (show ∀ x ∈ ownB h341, x ∉ L from (fun x hx => (n400 x hx))) sepN)))), n393, n401, (show ∀ b ∈ (ob1 :: (ownB h340 ++ (ob2 :: (ownB h341 ++ L)))), b < w639.drew.heap.size from (fun i h => cx671.lt i ((List.mem_cons.1 h).elim (fun e => e ▸ (List.mem_append_right _ (List.mem_append_right _ (List.mem_append_right _ (List.mem_append_right _ (.tail _ (.tail _ (.head _)))))))) (fun h => (List.mem_append.1 h).elim (fun h => (List.mem_append_right _ (List.mem_append_right _ (List.mem_append_left _ h)))) (fun h => (List.mem_cons.1 h).elim (fun e => e ▸ (List.mem_append_right _ (List.mem_append_right _ (List.mem_append_right _ (List.mem_append_right _ (.tail _ (.tail _ (.tail _ (.head _))))))))) (fun h => (List.mem_append.1 h).elim (fun h => (List.mem_append_right _ (List.mem_append_right _ (List.mem_append_right _ (List.mem_append_left _ h))))) (fun h => (List.mem_append_right _ (List.mem_append_right _ (List.mem_append_right _ (List.mem_append_right _ (.tail _ (.tail _ (.tail _ (.tail _ h))))))))))))))), cx671.g⟩))))
 replace h := (ifN hb669).symm.trans h
 refine wp_seq ?_
 refine reg ?_
 have s725 := pg668.o s367 rfl
 refine s1 pg668.z (okMv s725) rfl fun a726 p727 s728 => ?_
 refine s1 p727.z (okGt s728 cst) rfl fun a729 p730 s731 => ?_
 refine s1 p730.z (okMv s731) rfl fun a732 p733 s734 => ?_
 obtain ⟨b735, hb736, h⟩ := Option.bind_eq_some_iff.1 h
 refine cutL 6 (fun a' w' => Pg Try.f10.ntmps [105, 106, 107, 108, 109, 110] a732 a' ∧ a'.eval (.tmp 110) = .bool b735 ∧ G [] w639 w') ?_ ?_
 ·rcases bf (decide (0 < i336)) with hb737 | hb737
  ·have s738 := bv s734 hb737
   replace hb736 := (ifN hb737).symm.trans hb736
   clear h; have h := hb736; clear hb736
   refine s1k p733.z rfl (yd p733.z rfl rfl s738) rfl fun a739 p740 s741 => ?_
   have s742 := p740.o s738 rfl
   refine s1k p740.z rfl (yd p740.z rfl rfl s742) rfl fun a743 p744 s745 => ?_
   have s746 := p744.o s742 rfl
   refine s1k p744.z rfl (yd p744.z rfl rfl s746) rfl fun a747 p748 s749 => ?_
   have s750 := p748.o s746 rfl
   refine s1k p748.z rfl (yd p748.z rfl rfl s750) rfl fun a751 p752 s753 => ?_
   have s754 := p752.o s750 rfl
   refine s1k p752.z rfl (yd p752.z rfl rfl s754) rfl fun a755 p756 s757 => ?_
   have s758 := p756.o s754 rfl
   refine s1 p756.z (okPickF s758 cst) rfl fun a759 p760 s761 => ?_
   obtain rfl := Option.some.inj h
   exact rN ⟨rfl, (((((((Pg.refl p733.z).st p740 rfl).st p744 rfl).st p748 rfl).st p752 rfl).st p756 rfl).st p760 rfl), s761, (G.refl _ _)⟩
  ·have s762 := bv s734 hb737
   replace hb736 := (ifP hb737).symm.trans hb736
   clear h; have h := hb736; clear hb736
   have s763 := p733.o (p730.o (p727.o (pg668.o s360 rfl) rfl) rfl) rfl
   refine s1g p733.z (okMv s763) rfl (yd p733.z rfl rfl s762) fun a764 p765 s766 => ?_
   have s767 := p765.o s762 rfl
   have s768 := p765.o (p733.o (p730.o (p727.o s659 rfl) rfl) rfl) rfl
   refine s1g p765.z (okMv s768) rfl (yd p765.z rfl rfl s767) fun a769 p770 s771 => ?_
   have s772 := p770.o s767 rfl
   have s773 := p770.o s766 rfl
   have q774 := q372.mono (g409.t0.trans g640.t0)
   obtain ⟨y775, hy776, h⟩ := Option.bind_eq_some_iff.1 h
   obtain ⟨b777, o778, cs779, r781, e782, nb783, k780⟩ := q774.at_ hy776
   obtain rfl := r781
   refine s1g p770.z (k780 Try.underlying22 Try.sizeOf40 s773 s771 _) rfl (yd p770.z rfl rfl s772) fun a784 p785 s786 => ?_
   have s787 := p785.o s772 rfl
   refine s1g p785.z (okLdA ag40 s786 e782 rfl rfl whole) rfl (yd p785.z rfl rfl s787) fun a788 p789 s790 => ?_
   have s791 := p789.o s787 rfl
   obtain ⟨t792, ht793, h⟩ := Option.bind_eq_some_iff.1 h
   refine lG rfl (yd p789.z rfl rfl s791) (oCall p789.z Try.call25 (ag1 s790) (c25 (ownB h338 ++ (ownB h339 ++ (ownB h340 ++ (ownB h341 ++ (b309 :: b164 :: ob1 :: ob2 :: L))))) w639 cx641.lt _ _ ht793) rfl fun v797 a794 w795 hp798 p796 sp796 => ?_)
   obtain ⟨rfl, g799⟩ := hp798
   have cx800 := cx641.ca g799
   have s801 := p796.o s791 rfl
   refine s1 p796.z (okPickT s801 sp796) rfl fun a802 p803 s804 => ?_
   obtain rfl := Option.some.inj h
   exact rN ⟨rfl, (((((((Pg.refl p733.z).st p765 rfl).st p770 rfl).st p785 rfl).st p789 rfl).st p796 rfl).st p803 rfl), s804, g799⟩
 rintro a805 w808 ⟨pg806, s807, g809⟩
 have cx810 := cx641.ca g809
 refine s1 pg806.z (okAs s807) rfl fun a811 p812 s813 => ?_
 refine rN (thenN ?_)
 have s814 := p812.o (pg806.o (p733.o (p730.o s728 rfl) rfl) rfl) rfl
 have s815 := p812.o (pg806.o (p733.o s731 rfl) rfl) rfl
 have s816 := p812.o (pg806.o s734 rfl) rfl
 have s817 := p812.o s807 rfl
 have pg818 : Pg _ [101, 102, 103, 104, 105, 106, 107, 108, 109, 110] _ _ := ((((((Pg.refl pg668.z).st p727 rfl).st p730 rfl).st p733 rfl).tr pg806 rfl).st p812 rfl)
 refine cnd s813 (fun hb819 => ?_) (fun hb819 => ?_)
 ·replace h := (ifP hb819).symm.trans h
  refine wp_seq ?_
  refine regS mixed (by kernel_rfl) ?_
  have g820 := G.drew w808
  have cx821 := cx810.ca g820
  have s822 := pg818.o s645 rfl
  refine t1 pg818.z (okMv s822) rfl fun a823 p824 s825 => ?_
  refine t1 p824.z (okNil s825) rfl fun a826 p827 s828 => ?_
  refine t1 p827.z (okFA (o' := 4) fo68_4 s828 rfl) rfl fun a829 p830 s831 => ?_
  have m832 := ((m420.g0 g640).g0 g809).g0 g820
  refine t1 p830.z (okLd (j := 4) na30 s831 (m832.cl) rfl rfl) rfl fun a833 p834 s835 => ?_
  have s836 := p834.o (p830.o (p827.o (p824.o s822 rfl) rfl) rfl) rfl
  refine t1 p834.z (okMv s836) rfl fun a837 p838 s839 => ?_
  refine t1 p838.z (okNil s839) rfl fun a840 p841 s842 => ?_
  refine t1 p841.z (okFA (o' := 5) fo68_5 s842 rfl) rfl fun a843 p844 s845 => ?_
  refine t1 p844.z (okLd (j := 5) na31 s845 (m832.cl) rfl rfl) rfl fun a846 p847 s848 => ?_
  have s849 := p847.o (p844.o (p841.o (p838.o s835 rfl) rfl) rfl) rfl
  refine t1 p847.z (okAs s849) rfl fun a850 p851 s852 => ?_
  have s853 := p851.o s848 rfl
  refine t1 p851.z (okAs s853) rfl fun a854 p855 s856 => ?_
  refine t1 p855.z (okAs cst) rfl fun a857 p858 s859 => ?_
  refine t1 p858.z (okAs cst) rfl fun a860 p861 s862 => ?_
  refine t1 p861.z (okAs cst) rfl fun a863 p864 s865 => ?_
  refine tN (thenN ?_)
  have s866 := p864.o (p861.o (p858.o (p855.o s852 rfl) rfl) rfl) rfl
  have s867 := p864.o (p861.o (p858.o s856 rfl) rfl) rfl
  have s868 := p864.o (p861.o s859 rfl) rfl
  have s869 := p864.o s862 rfl
  obtain rfl := Option.some.inj h
  have q870 := ((q437.t0 g640.t0 g640).t0 g809.t0 g809).t0 g820.t0 g820
  have q871 := (((q377.t0 g409.t0 g409).t0 g640.t0 g640).t0 g809.t0 g809).t0 g820.t0 g820
  have m872 := (((m368.g0 g409).g0 g640).g0 g809).g0 g820
  have q873 := (((q373.t0 g409.t0 g409).t0 g640.t0 g640).t0 g809.t0 g809).t0 g820.t0 g820
  have m874 := (((m369.g0 g409).g0 g640).g0 g809).g0 g820
  have q875 := (((q374.t0 g409.t0 g409).t0 g640.t0 g640).t0 g809.t0 g809).t0 g820.t0 g820
  exact wp_ret (blkR (thenR (jumpR (ret5 p864.z Try.results10 (rvT s866) (rvT s867) (rvT s868) (rvT s869) (rvT s865) ⟨_, rfl, h338, h339, .nilIface, h340, h341, rfl, (q870.rd (fun i h => (List.mem_cons.1 h).elim (fun e => e ▸ (List.mem_append_right _ (List.mem_append_right _ (List.mem_append_right _ (List.mem_append_right _ (.tail _ (.tail _ (.head _)))))))) (fun h => (List.mem_append.1 h).elim (fun h => (List.mem_append_right _ (List.mem_append_right _ (List.mem_append_left _ h)))) (fun h => (List.mem_cons.1 h).elim (fun e => e ▸ (List.mem_append_right _ (List.mem_append_right _ (List.mem_append_right _ (List.mem_append_right _ (.tail _ (.tail _ (.tail _ (.head _))))))))) (fun h => (List.mem_append.1 h).elim (fun h => (List.mem_append_right _ (List.mem_append_right _ (List.mem_append_right _ (List.mem_append_left _ h))))) (fun h => (List.mem_append_right _ (List.mem_append_right _ (List.mem_append_right _ (List.mem_append_right _ (.tail _ (.tail _ (.tail _ (.tail _ h))))))))))))) (fun x hx => (nc (nbo n381 hx) (na (n398 x hx) (nc (nbo n382 hx) (na (n406 x hx) (n379 x hx))))))), (q871.rd (fun i h => (List.mem_cons.1 h).elim (fun e => e ▸ (List.mem_append_right _ (List.mem_append_right _ (List.mem_append_right _ (List.mem_append_right _ (.tail _ (.tail _ (.head _)))))))) (fun h => (List.mem_append.1 h).elim (fun h => (List.mem_append_right _ (List.mem_append_right _ (List.mem_append_left _ h)))) (fun h => (List.mem_cons.1 h).elim (fun e => e ▸ (List.mem_append_right _ (List.mem_append_right _ (List.mem_append_right _ (List.mem_append_right _ (.tail _ (.tail _ (.tail _ (.head _))))))))) (fun h => (List.mem_append.1 h).elim (fun h => (List.mem_append_right _ (List.mem_append_right _ (List.mem_append_right _ (List.mem_append_left _ h))))) (fun h => (List.mem_append_right _ (List.mem_append_right _ (List.mem_append_right _ (List.mem_append_right _ (.tail _ (.tail _ (.tail _ (.tail _ h))))))))))))) (fun x hx => (nc (nbo n387 hx) (na (n399 x hx) (nc (nbo n388 hx) (na (n407 x hx) (n385 x hx))))))), ErG.nil, m872, (q873.sub (fun i h => (List.mem_cons.1 h).elim (fun e => e ▸ (List.mem_append_right _ (List.mem_append_right _ (List.mem_append_right _ (List.mem_append_right _ (.tail _ (.tail _ (.head _)))))))) (fun h => (List.mem_append.1 h).elim (fun h => (List.mem_append_right _ (List.mem_append_right _ (List.mem_append_left _ h)))) (fun h => (List.mem_cons.1 h).elim (fun e => e ▸ (List.mem_append_right _ (List.mem_append_right _ (List.mem_append_right _ (List.mem_append_right _ (.tail _ (.tail _ (.tail _ (.head _))))))))) (fun h => (List.mem_append.1 h).elim (fun h => (List.mem_append_right _ (List.mem_append_right _ (List.mem_append_right _ (List.mem_append_left _ h))))) (fun h => (List.mem_append_right _ (List.mem_append_right _ (List.mem_append_right _ (List.mem_append_right _ (.tail _ (.tail _ (.tail _ (.tail _ h)))))))))))))), m874, (q875.sub (fun i h => (List.mem_cons.1 h).elim (fun e => e ▸ (List.mem_append_right _ (List.mem_append_right _ (List.mem_append_right _ (List.mem_append_right _ (.tail _ (.tail _ (.head _)))))))) (fun h => (List.mem_append.1 h).elim (fun h => (List.mem_append_right _ (List.mem_append_right _ (List.mem_append_left _ h)))) (fun h => (List.mem_cons.1 h).elim (fun e => e ▸ (List.mem_append_right _ (List.mem_append_right _ (List.mem_append_right _ (List.mem_append_right _ (.tail _ (.tail _ (.tail _ (.head _))))))))) (fun h => (List.mem_append.1 h).elim (fun h => (List.mem_append_right _ (List.mem_append_right _ (List.mem_append_right _ (List.mem_append_left _ h))))) (fun h => (List.mem_append_right _ (List.mem_append_right _ (List.mem_append_right _ (List.mem_append_right _ (.tail _ (.tail _ (.tail _ (.tail _ h)))))))))))))), (sepC (show ∀ x ∈ [ob1], x ∉ (ownB h340 ++ (ob2 :: (ownB h341 ++ L))) from (in1 (na n394 (nc (D.bb (i := 0) (j := 2) rfl rfl rfl) (na n402 (D.bl (i := 0) rfl)))))) (sepC (show ∀ x ∈ ownB h340, x ∉ (ob2 :: (ownB h341 ++ L)) from (fun x hx => (nc (nbo n395 hx) (na (n408 x hx) (n392 x hx))))) (sepC (show ∀ x ∈ [ob2], x ∉ (ownB h341 ++ L) from (in1 (na n403 (D.bl (i := 2) rfl)))) (sepC (show ∀ x ∈ ownB h341, x ∉ L from (fun x hx => (n400 x hx))) sepN)))), n393, n401, (show ∀ b ∈ (ob1 :: (ownB h340 ++ (ob2 :: (ownB h341 ++ L)))), b < w808.drew.heap.size from (fun i h => cx821.lt i ((List.mem_cons.1 h).elim (fun e => e ▸ (List.mem_append_right _ (List.mem_append_right _ (List.mem_append_right _ (List.mem_append_right _ (.tail _ (.tail _ (.head _)))))))) (fun h => (List.mem_append.1 h).elim (fun h => (List.mem_append_right _ (List.mem_append_right _ (List.mem_append_left _ h)))) (fun h => (List.mem_cons.1 h).elim (fun e => e ▸ (List.mem_append_right _ (List.mem_append_right _ (List.mem_append_right _ (List.mem_append_right _ (.tail _ (.tail _ (.tail _ (.head _))))))))) (fun h => (List.mem_append.1 h).elim (fun h => (List.mem_append_right _ (List.mem_append_right _ (List.mem_append_right _ (List.mem_append_left _ h))))) (fun h => (List.mem_append_right _ (List.mem_append_right _ (List.mem_append_right _ (List.mem_append_right _ (.tail _ (.tail _ (.tail _ (.tail _ h))))))))))))))), cx821.g⟩))))
 replace h := (ifN hb819).symm.trans h
 refine wp_skip (blkN (thenN ?_))
 refine wp_seq ?_
 refine reg ?_
 have s876 := pg818.o s645 rfl
 refine s1 pg818.z (okMv s876) rfl fun a877 p878 s879 => ?_
 have s880 := p878.o (pg818.o (pg668.o s360 rfl) rfl) rfl
 refine s1 p878.z (okMv s880) rfl fun a881 p882 s883 => ?_
 have s884 := p882.o (p878.o (pg818.o s659 rfl) rfl) rfl
 refine s1 p882.z (okMv s884) rfl fun a885 p886 s887 => ?_
 have s888 := p886.o s883 rfl
 have q889 := q372.mono ((g409.t0.trans g640.t0).trans g809.t0)
 obtain ⟨y890, hy891, h⟩ := Option.bind_eq_some_iff.1 h
 obtain ⟨b892, o893, cs894, r896, e897, nb898, k895⟩ := q889.at_ hy891
 obtain rfl := r896
 refine s1 p886.z (k895 Try.underlying22 Try.sizeOf40 s888 s887 _) rfl fun a899 p900 s901 => ?_
 refine s1 p900.z (okLdA ag40 s901 e897 rfl rfl whole) rfl fun a902 p903 s904 => ?_
 have s905 := p903.o (p900.o (p886.o (p882.o s879 rfl) rfl) rfl) rfl
 have m906 := (m420.g0 g640).g0 g809
 have q907 := q375.mono ((g409.t0.trans g640.t0).trans g809.t0)
 have m908 := ((m368.g0 g409).g0 g640).g0 g809
 have q909 := ((q373.t0 g409.t0 g409).t0 g640.t0 g640).t0 g809.t0 g809
 have m910 := ((m369.g0 g409).g0 g640).g0 g809
 have q911 := ((q374.t0 g409.t0 g409).t0 g640.t0 g640).t0 g809.t0 g809
 have q912 := (q437.t0 g640.t0 g640).t0 g809.t0 g809
 have q913 := ((q377.t0 g409.t0 g409).t0 g640.t0 g640).t0 g809.t0 g809
 have m914 := ((m370.g0 g409).g0 g640).g0 g809
 obtain ⟨t915, ht916, h⟩ := Option.bind_eq_some_iff.1 h
 refine lS (oCall p903.z Try.call26 (ag2 s905 s904) (c26 (b164 :: L) w808 (⟨i327, (⟨i332, i333⟩ : Tcell_Arena), (⟨i334, i335⟩ : Tpermit_Table), i328, i329, i330, i331⟩ : Tmicro_machine) b309 h337 ob1 h340 ob2 h341 h338 h339 y890 (fun i h => cx810.lt i ((List.mem_cons.1 h).elim (fun e => e ▸ (List.mem_append_right _ (List.mem_append_right _ (List.mem_append_right _ (List.mem_append_right _ (.head _)))))) (fun h => (List.mem_cons.1 h).elim (fun e => e ▸ (List.mem_append_right _ (List.mem_append_right _ (List.mem_append_right _ (List.mem_append_right _ (.tail _ (.tail _ (.head _)))))))) (fun h => (List.mem_append.1 h).elim (fun h => (List.mem_append_right _ (List.mem_append_right _ (List.mem_append_left _ h)))) (fun h => (List.mem_cons.1 h).elim (fun e => e ▸ (List.mem_append_right _ (List.mem_append_right _ (List.mem_append_right _ (List.mem_append_right _ (.tail _ (.tail _ (.tail _ (.head _))))))))) (fun h => (List.mem_append.1 h).elim (fun h => (List.mem_append_right _ (List.mem_append_right _ (List.mem_append_right _ (List.mem_append_left _ h))))) (fun h => (List.mem_append.1 h).elim (fun h => (List.mem_append_left _ h)) (fun h => (List.mem_append.1 h).elim (fun h => (List.mem_append_right _ (List.mem_append_left _ h))) (fun h => (List.mem_cons.1 h).elim (fun e => e ▸ (List.mem_append_right _ (List.mem_append_right _ (List.mem_append_right _ (List.mem_append_right _ (.tail _ (.head _))))))) (fun h => (List.mem_append_right _ (List.mem_append_right _ (List.mem_append_right _ (List.mem_append_right _ (.tail _ (.tail _ (.tail _ (.tail _ h)))))))))))))))))) (sepC (show ∀ x ∈ [b309], x ∉ (ob1 :: (ownB h340 ++ (ob2 :: (ownB h341 ++ (ownB h338 ++ (ownB h339 ++ (b164 :: L))))))) from (in1 (nc (m314.ne e313).symm (na n397 (nc (m315.ne e313).symm (na n405 (na n384 (na n390 (nc (m316.ne e313).symm (fun h => Nat.lt_irrefl _ (Nat.lt_of_lt_of_le (hLb _ h) f320))))))))))) (sepC (show ∀ x ∈ [ob1], x ∉ (ownB h340 ++ (ob2 :: (ownB h341 ++ (ownB h338 ++ (ownB h339 ++ (b164 :: L)))))) from (in1 (na n394 (nc (D.bb (i := 0) (j := 2) rfl rfl rfl) (na n402 (na n381 (na n387 (nc (m169.ne e168) (D.bl (i := 0) rfl))))))))) (sepC (show ∀ x ∈ ownB h340, x ∉ (ob2 :: (ownB h341 ++ (ownB h338 ++ (ownB h339 ++ (b164 :: L))))) from (fun x hx => (nc (nbo n395 hx) (na (n408 x hx) (na ((djs n398) x hx) (na ((djs n399) x hx) (nc (nbo n396 hx) (n392 x hx)))))))) (sepC (show ∀ x ∈ [ob2], x ∉ (ownB h341 ++ (ownB h338 ++ (ownB h339 ++ (b164 :: L)))) from (in1 (na n403 (na n382 (na n388 (nc (m170.ne e168) (D.bl (i := 2) rfl))))))) (sepC (show ∀ x ∈ ownB h341, x ∉ (ownB h338 ++ (ownB h339 ++ (b164 :: L))) from (fun x hx => (na ((djs n406) x hx) (na ((djs n407) x hx) (nc (nbo n404 hx) (n400 x hx)))))) (sepC (show ∀ x ∈ ownB h338, x ∉ (ownB h339 ++ (b164 :: L)) from (fun x hx => (na (n391 x hx) (nc (nbo n383 hx) (n379 x hx))))) (sepC (show ∀ x ∈ ownB h339, x ∉ (b164 :: L) from (fun x hx => (nc (nbo n389 hx) (n385 x hx)))) sepN))))))) m906 (q907.mono ((Tr.refl _ _).sub (fun i h => (List.mem_cons.1 h).elim (fun e => e ▸ (List.mem_append_right _ (List.mem_append_right _ (List.mem_append_right _ (List.mem_append_right _ (.head _)))))) (fun h => (List.mem_cons.1 h).elim (fun e => e ▸ (List.mem_append_right _ (List.mem_append_right _ (List.mem_append_right _ (List.mem_append_right _ (.tail _ (.tail _ (.head _)))))))) (fun h => (List.mem_append.1 h).elim (fun h => (List.mem_append_right _ (List.mem_append_right _ (List.mem_append_left _ h)))) (fun h => (List.mem_cons.1 h).elim (fun e => e ▸ (List.mem_append_right _ (List.mem_append_right _ (List.mem_append_right _ (List.mem_append_right _ (.tail _ (.tail _ (.tail _ (.head _))))))))) (fun h => (List.mem_append.1 h).elim (fun h => (List.mem_append_right _ (List.mem_append_right _ (List.mem_append_right _ (List.mem_append_left _ h))))) (fun h => (List.mem_append.1 h).elim (fun h => (List.mem_append_left _ h)) (fun h => (List.mem_append.1 h).elim (fun h => (List.mem_append_right _ (List.mem_append_left _ h))) (fun h => (List.mem_cons.1 h).elim (fun e => e ▸ (List.mem_append_right _ (List.mem_append_right _ (List.mem_append_right _ (List.mem_append_right _ (.tail _ (.head _))))))) (fun h => (List.mem_append_right _ (List.mem_append_right _ (List.mem_append_right _ (List.mem_append_right _ (.tail _ (.tail _ (.tail _ (.tail _ h))))))))))))))))))) m908 (q909.sub (fun i h => (List.mem_cons.1 h).elim (fun e => e ▸ (List.mem_append_right _ (List.mem_append_right _ (List.mem_append_right _ (List.mem_append_right _ (.head _)))))) (fun h => (List.mem_cons.1 h).elim (fun e => e ▸ (List.mem_append_right _ (List.mem_append_right _ (List.mem_append_right _ (List.mem_append_right _ (.tail _ (.tail _ (.head _)))))))) (fun h => (List.mem_append.1 h).elim (fun h => (List.mem_append_right _ (List.mem_append_right _ (List.mem_append_left _ h)))) (fun h => (List.mem_cons.1 h).elim (fun e => e ▸ (List.mem_append_right _ (List.mem_append_right _ (List.mem_append_right _ (List.mem_append_right _ (.tail _ (.tail _ (.tail _ (.head _))))))))) (fun h => (List.mem_append.1 h).elim (fun h => (List.mem_append_right _ (List.mem_append_right _ (List.mem_append_right _ (List.mem_append_left _ h))))) (fun h => (List.mem_append.1 h).elim (fun h => (List.mem_append_left _ h)) (fun h => (List.mem_append.1 h).elim (fun h => (List.mem_append_right _ (List.mem_append_left _ h))) (fun h => (List.mem_cons.1 h).elim (fun e => e ▸ (List.mem_append_right _ (List.mem_append_right _ (List.mem_append_right _ (List.mem_append_right _ (.tail _ (.head _))))))) (fun h => (List.mem_append_right _ (List.mem_append_right _ (List.mem_append_right _ (List.mem_append_right _ (.tail _ (.tail _ (.tail _ (.tail _ h)))))))))))))))))) m910 (q911.sub (fun i h => (List.mem_cons.1 h).elim (fun e => e ▸ (List.mem_append_right _ (List.mem_append_right _ (List.mem_append_right _ (List.mem_append_right _ (.head _)))))) (fun h => (List.mem_cons.1 h).elim (fun e => e ▸ (List.mem_append_right _ (List.mem_append_right _ (List.mem_append_right _ (List.mem_append_right _ (.tail _ (.tail _ (.head _)))))))) (fun h => (List.mem_append.1 h).elim (fun h => (List.mem_append_right _ (List.mem_append_right _ (List.mem_append_left _ h)))) (fun h => (List.mem_cons.1 h).elim (fun e => e ▸ (List.mem_append_right _ (List.mem_append_right _ (List.mem_append_right _ (List.mem_append_right _ (.tail _ (.tail _ (.tail _ (.head _))))))))) (fun h => (List.mem_append.1 h).elim (fun h => (List.mem_append_right _ (List.mem_append_right _ (List.mem_append_right _ (List.mem_append_left _ h))))) (fun h => (List.mem_append.1 h).elim (fun h => (List.mem_append_left _ h)) (fun h => (List.mem_append.1 h).elim (fun h => (List.mem_append_right _ (List.mem_append_left _ h))) (fun h => (List.mem_cons.1 h).elim (fun e => e ▸ (List.mem_append_right _ (List.mem_append_right _ (List.mem_append_right _ (List.mem_append_right _ (.tail _ (.head _))))))) (fun h => (List.mem_append_right _ (List.mem_append_right _ (List.mem_append_right _ (List.mem_append_right _ (.tail _ (.tail _ (.tail _ (.tail _ h)))))))))))))))))) (q912.sub (fun i h => (List.mem_cons.1 h).elim (fun e => e ▸ (List.mem_append_right _ (List.mem_append_right _ (List.mem_append_right _ (List.mem_append_right _ (.head _)))))) (fun h => (List.mem_cons.1 h).elim (fun e => e ▸ (List.mem_append_right _ (List.mem_append_right _ (List.mem_append_right _ (List.mem_append_right _ (.tail _ (.tail _ (.head _)))))))) (fun h => (List.mem_append.1 h).elim (fun h => (List.mem_append_right _ (List.mem_append_right _ (List.mem_append_left _ h)))) (fun h => (List.mem_cons.1 h).elim (fun e => e ▸ (List.mem_append_right _ (List.mem_append_right _ (List.mem_append_right _ (List.mem_append_right _ (.tail _ (.tail _ (.tail _ (.head _))))))))) (fun h => (List.mem_append.1 h).elim (fun h => (List.mem_append_right _ (List.mem_append_right _ (List.mem_append_right _ (List.mem_append_left _ h))))) (fun h => (List.mem_append.1 h).elim (fun h => (List.mem_append_left _ h)) (fun h => (List.mem_append.1 h).elim (fun h => (List.mem_append_right _ (List.mem_append_left _ h))) (fun h => (List.mem_cons.1 h).elim (fun e => e ▸ (List.mem_append_right _ (List.mem_append_right _ (List.mem_append_right _ (List.mem_append_right _ (.tail _ (.head _))))))) (fun h => (List.mem_append_right _ (List.mem_append_right _ (List.mem_append_right _ (List.mem_append_right _ (.tail _ (.tail _ (.tail _ (.tail _ h)))))))))))))))))) (q913.sub (fun i h => (List.mem_cons.1 h).elim (fun e => e ▸ (List.mem_append_right _ (List.mem_append_right _ (List.mem_append_right _ (List.mem_append_right _ (.head _)))))) (fun h => (List.mem_cons.1 h).elim (fun e => e ▸ (List.mem_append_right _ (List.mem_append_right _ (List.mem_append_right _ (List.mem_append_right _ (.tail _ (.tail _ (.head _)))))))) (fun h => (List.mem_append.1 h).elim (fun h => (List.mem_append_right _ (List.mem_append_right _ (List.mem_append_left _ h)))) (fun h => (List.mem_cons.1 h).elim (fun e => e ▸ (List.mem_append_right _ (List.mem_append_right _ (List.mem_append_right _ (List.mem_append_right _ (.tail _ (.tail _ (.tail _ (.head _))))))))) (fun h => (List.mem_append.1 h).elim (fun h => (List.mem_append_right _ (List.mem_append_right _ (List.mem_append_right _ (List.mem_append_left _ h))))) (fun h => (List.mem_append.1 h).elim (fun h => (List.mem_append_left _ h)) (fun h => (List.mem_append.1 h).elim (fun h => (List.mem_append_right _ (List.mem_append_left _ h))) (fun h => (List.mem_cons.1 h).elim (fun e => e ▸ (List.mem_append_right _ (List.mem_append_right _ (List.mem_append_right _ (List.mem_append_right _ (.tail _ (.head _))))))) (fun h => (List.mem_append_right _ (List.mem_append_right _ (List.mem_append_right _ (List.mem_append_right _ (.tail _ (.tail _ (.tail _ (.tail _ h)))))))))))))))))) _ ht916) rfl fun v920 a917 w918 hp921 p919 sp919 => ?_)
 obtain ⟨h922, h923, h924, rfl, m925, q926, m927, q928, m929, q930, q931, q932, D933, f936, f937, f938, lt934, g935⟩ := hp921
 have hs939 : ∀ i ∈ (b309 :: (ob1 :: (ownB h340 ++ (ob2 :: (ownB h341 ++ (ownB h338 ++ (ownB h339 ++ []))))))), i ∈ (ob1 :: (ownB hp1_0 ++ (ob2 :: (ownB hp2_0 ++ [])))) ∨ w.heap.size ≤ i := (memC (.inr f320) (memC (.inl (.head _)) (memA n393 (memC (.inl (.tail _ (List.mem_append_right _ (.head _)))) (memA n401 (memA n380 (memA n386 memN)))))))
 have hs940 : ∀ i ∈ (b309 :: (ob1 :: (ownB h340 ++ (ob2 :: (ownB h341 ++ (ownB h338 ++ (ownB h339 ++ []))))))), i ∈ (ownB h338 ++ (ownB h339 ++ (ownB h340 ++ (ownB h341 ++ (b309 :: b164 :: ob1 :: ob2 :: L))))) := (memC (List.mem_append_right _ (List.mem_append_right _ (List.mem_append_right _ (List.mem_append_right _ (.head _))))) (memC (List.mem_append_right _ (List.mem_append_right _ (List.mem_append_right _ (List.mem_append_right _ (.tail _ (.tail _ (.head _))))))) (memA (fun _ h => (List.mem_append_right _ (List.mem_append_right _ (List.mem_append_left _ h)))) (memC (List.mem_append_right _ (List.mem_append_right _ (List.mem_append_right _ (List.mem_append_right _ (.tail _ (.tail _ (.tail _ (.head _)))))))) (memA (fun _ h => (List.mem_append_right _ (List.mem_append_right _ (List.mem_append_right _ (List.mem_append_left _ h))))) (memA (fun _ h => (List.mem_append_left _ h)) (memA (fun _ h => (List.mem_append_right _ (List.mem_append_left _ h))) memN)))))))
 have t941 : Tr (ownB h338 ++ (ownB h339 ++ (ownB h340 ++ (ownB h341 ++ (b309 :: b164 :: ob1 :: ob2 :: L))))) w808 (b309 :: (ob1 :: (ownB h922 ++ (ob2 :: (ownB h341 ++ (ownB h923 ++ (ownB h924 ++ (b164 :: L)))))))) w918 := G.tC g935 hs940 (memC (.inl (List.mem_append_right _ (List.mem_append_right _ (List.mem_append_right _ (List.mem_append_right _ (.head _)))))) (memC (.inl (List.mem_append_right _ (List.mem_append_right _ (List.mem_append_right _ (List.mem_append_right _ (.tail _ (.tail _ (.head _)))))))) (memA (frL f936 hs940) (memC (.inl (List.mem_append_right _ (List.mem_append_right _ (List.mem_append_right _ (List.mem_append_right _ (.tail _ (.tail _ (.tail _ (.head _))))))))) (memA (fun _ h => .inl (List.mem_append_right _ (List.mem_append_right _ (List.mem_append_right _ (List.mem_append_left _ h))))) (memA (frL f937 hs940) (memA (frL f938 hs940) (fun i h => .inl ((List.mem_cons.1 h).elim (fun e => e ▸ (List.mem_append_right _ (List.mem_append_right _ (List.mem_append_right _ (List.mem_append_right _ (.tail _ (.head _))))))) (fun h => (List.mem_append_right _ (List.mem_append_right _ (List.mem_append_right _ (List.mem_append_right _ (.tail _ (.tail _ (.tail _ (.tail _ h))))))))))))))))))
 have cx942 := cx810.gs g935 hs939 lt934
 refine s1 p919.z (okAs sp919) rfl fun a943 p944 s945 => ?_
 refine rN (thenN ?_)
 refine wp_seq ?_
 refine wp_seq ?_
 refine reg ?_
 refine s1 p944.z (okMv s945) rfl fun a946 p947 s948 => ?_
 refine s1 p947.z (okEq s948 cst) rfl fun a949 p950 s951 => ?_
 refine rN (thenN ?_)
 have s952 := p950.o (p947.o (p944.o (p919.o (p903.o (p900.o (p886.o (p882.o s880 rfl) rfl) rfl) rfl) rfl) rfl) rfl) rfl
 have s953 := p950.o (p947.o (p944.o (p919.o (p903.o (p900.o (p886.o s884 rfl) rfl) rfl) rfl) rfl) rfl) rfl
 have s954 := p950.o (p947.o (p944.o (p919.o s905 rfl) rfl) rfl) rfl
 have s955 := p950.o (p947.o (p944.o (p919.o (p903.o (p900.o s888 rfl) rfl) rfl) rfl) rfl) rfl
 have s956 := p950.o (p947.o (p944.o (p919.o (p903.o (p900.o s887 rfl) rfl) rfl) rfl) rfl) rfl
 have s957 := p950.o (p947.o (p944.o (p919.o (p903.o s901 rfl) rfl) rfl) rfl) rfl
 have s958 := p950.o (p947.o (p944.o (p919.o s904 rfl) rfl) rfl) rfl
 have s959 := p950.o (p947.o (p944.o sp919 rfl) rfl) rfl
 have s960 := p950.o (p947.o s945 rfl) rfl
 have s961 := p950.o s948 rfl
 have pg962 : Pg _ [20, 119, 120, 121, 122, 123, 124, 125, 126] _ _ := ((((((((((Pg.refl pg818.z).st p878 rfl).st p882 rfl).st p886 rfl).st p900 rfl).st p903 rfl).st p919 rfl).st p944 rfl).st p947 rfl).st p950 rfl)
 refine cnd s951 (fun hb963 => ?_) (fun hb963 => ?_)
 ·replace h := (ifP hb963).symm.trans h
  refine wp_seq ?_
  refine reg ?_
  have s964 := pg962.o (pg818.o s725 rfl) rfl
  refine s1 pg962.z (okMv s964) rfl fun a965 p966 s967 => ?_
  refine s1 p966.z (okAdd s967 cst) rfl fun a968 p969 s970 => ?_
  refine s1 p969.z (okAs s970) rfl fun a971 p972 s973 => ?_
  refine rN (thenN ?_)
  have s974 := p972.o (p969.o (p966.o s952 rfl) rfl) rfl
  have s975 := p972.o (p969.o (p966.o (pg962.o (pg818.o (pg668.o s361 rfl) rfl) rfl) rfl) rfl) rfl
  have s976 := p972.o (p969.o (p966.o (pg962.o (pg818.o (pg668.o s362 rfl) rfl) rfl) rfl) rfl) rfl
  have s977 := p972.o (p969.o (p966.o (pg962.o (pg818.o (pg668.o s363 rfl) rfl) rfl) rfl) rfl) rfl
  have s978 := p972.o (p969.o (p966.o (pg962.o (pg818.o (pg668.o s364 rfl) rfl) rfl) rfl) rfl) rfl
  have s979 := p972.o (p969.o (p966.o (pg962.o (pg818.o (pg668.o s365 rfl) rfl) rfl) rfl) rfl) rfl
  have s980 := p972.o (p969.o (p966.o (pg962.o s876 rfl) rfl) rfl) rfl
  have m981 := m914.g g935 (nc (m316.ne e313) (nc (m169.ne e168).symm (na n396 (nc (m170.ne e168).symm (na n404 (na n383 (na n389 not_nil)))))))
  have q982 := q889.mono t941
  exact wp_goto (thenG (jumpG ⟨k, Nat.lt_succ_self k, t915.2.code, t915.2.i, t915.2.l, t915.2.notes, t915.2.value, t915.2.a.l, t915.2.a.most, t915.2.t.l, t915.2.t.now, (w64 (i336 + 1)), h337, h923, h924, h922, h341, p972.z, s974, s975, s976, s977, s978, s979, s980, s973, m927, m929, m981, m925, (q982.mono ((Tr.refl _ _).sub (fun i h => (List.mem_append.1 h).elim (fun h => (.tail _ (.tail _ (List.mem_append_right _ (.tail _ (List.mem_append_right _ (List.mem_append_left _ h))))))) (fun h => (List.mem_append.1 h).elim (fun h => (.tail _ (.tail _ (List.mem_append_right _ (.tail _ (List.mem_append_right _ (List.mem_append_right _ (List.mem_append_left _ h)))))))) (fun h => (List.mem_append.1 h).elim (fun h => (.tail _ (.tail _ (List.mem_append_left _ h)))) (fun h => (List.mem_append.1 h).elim (fun h => (.tail _ (.tail _ (List.mem_append_right _ (.tail _ (List.mem_append_left _ h)))))) (fun h => (List.mem_cons.1 h).elim (fun e => e ▸ (.head _)) (fun h => (List.mem_cons.1 h).elim (fun e => e ▸ (.tail _ (.tail _ (List.mem_append_right _ (.tail _ (List.mem_append_right _ (List.mem_append_right _ (List.mem_append_right _ (.head _))))))))) (fun h => (List.mem_cons.1 h).elim (fun e => e ▸ (.tail _ (.head _))) (fun h => (List.mem_cons.1 h).elim (fun e => e ▸ (.tail _ (.tail _ (List.mem_append_right _ (.head _))))) (fun h => (.tail _ (.tail _ (List.mem_append_right _ (.tail _ (List.mem_append_right _ (List.mem_append_right _ (List.mem_append_right _ (.tail _ h))))))))))))))))))), (q928.sub (fun i h => (List.mem_append.1 h).elim (fun h => (.tail _ (.tail _ (List.mem_append_right _ (.tail _ (List.mem_append_right _ (List.mem_append_left _ h))))))) (fun h => (List.mem_append.1 h).elim (fun h => (.tail _ (.tail _ (List.mem_append_right _ (.tail _ (List.mem_append_right _ (List.mem_append_right _ (List.mem_append_left _ h)))))))) (fun h => (List.mem_append.1 h).elim (fun h => (.tail _ (.tail _ (List.mem_append_left _ h)))) (fun h => (List.mem_append.1 h).elim (fun h => (.tail _ (.tail _ (List.mem_append_right _ (.tail _ (List.mem_append_left _ h)))))) (fun h => (List.mem_cons.1 h).elim (fun e => e ▸ (.head _)) (fun h => (List.mem_cons.1 h).elim (fun e => e ▸ (.tail _ (.tail _ (List.mem_append_right _ (.tail _ (List.mem_append_right _ (List.mem_append_right _ (List.mem_append_right _ (.head _))))))))) (fun h => (List.mem_cons.1 h).elim (fun e => e ▸ (.tail _ (.head _))) (fun h => (List.mem_cons.1 h).elim (fun e => e ▸ (.tail _ (.tail _ (List.mem_append_right _ (.head _))))) (fun h => (.tail _ (.tail _ (List.mem_append_right _ (.tail _ (List.mem_append_right _ (List.mem_append_right _ (List.mem_append_right _ (.tail _ h)))))))))))))))))), (q930.sub (fun i h => (List.mem_append.1 h).elim (fun h => (.tail _ (.tail _ (List.mem_append_right _ (.tail _ (List.mem_append_right _ (List.mem_append_left _ h))))))) (fun h => (List.mem_append.1 h).elim (fun h => (.tail _ (.tail _ (List.mem_append_right _ (.tail _ (List.mem_append_right _ (List.mem_append_right _ (List.mem_append_left _ h)))))))) (fun h => (List.mem_append.1 h).elim (fun h => (.tail _ (.tail _ (List.mem_append_left _ h)))) (fun h => (List.mem_append.1 h).elim (fun h => (.tail _ (.tail _ (List.mem_append_right _ (.tail _ (List.mem_append_left _ h)))))) (fun h => (List.mem_cons.1 h).elim (fun e => e ▸ (.head _)) (fun h => (List.mem_cons.1 h).elim (fun e => e ▸ (.tail _ (.tail _ (List.mem_append_right _ (.tail _ (List.mem_append_right _ (List.mem_append_right _ (List.mem_append_right _ (.head _))))))))) (fun h => (List.mem_cons.1 h).elim (fun e => e ▸ (.tail _ (.head _))) (fun h => (List.mem_cons.1 h).elim (fun e => e ▸ (.tail _ (.tail _ (List.mem_append_right _ (.head _))))) (fun h => (.tail _ (.tail _ (List.mem_append_right _ (.tail _ (List.mem_append_right _ (List.mem_append_right _ (List.mem_append_right _ (.tail _ h)))))))))))))))))), (q926.mono ((Tr.refl _ _).sub (fun i h => (List.mem_append.1 h).elim (fun h => (.tail _ (.tail _ (List.mem_append_right _ (.tail _ (List.mem_append_right _ (List.mem_append_left _ h))))))) (fun h => (List.mem_append.1 h).elim (fun h => (.tail _ (.tail _ (List.mem_append_right _ (.tail _ (List.mem_append_right _ (List.mem_append_right _ (List.mem_append_left _ h)))))))) (fun h => (List.mem_append.1 h).elim (fun h => (.tail _ (.tail _ (List.mem_append_left _ h)))) (fun h => (List.mem_append.1 h).elim (fun h => (.tail _ (.tail _ (List.mem_append_right _ (.tail _ (List.mem_append_left _ h)))))) (fun h => (List.mem_cons.1 h).elim (fun e => e ▸ (.head _)) (fun h => (List.mem_cons.1 h).elim (fun e => e ▸ (.tail _ (.tail _ (List.mem_append_right _ (.tail _ (List.mem_append_right _ (List.mem_append_right _ (List.mem_append_right _ (.head _))))))))) (fun h => (List.mem_cons.1 h).elim (fun e => e ▸ (.tail _ (.head _))) (fun h => (List.mem_cons.1 h).elim (fun e => e ▸ (.tail _ (.tail _ (List.mem_append_right _ (.head _))))) (fun h => (.tail _ (.tail _ (List.mem_append_right _ (.tail _ (List.mem_append_right _ (List.mem_append_right _ (List.mem_append_right _ (.tail _ h))))))))))))))))))), (q931.sub (fun i h => (List.mem_append.1 h).elim (fun h => (.tail _ (.tail _ (List.mem_append_right _ (.tail _ (List.mem_append_right _ (List.mem_append_left _ h))))))) (fun h => (List.mem_append.1 h).elim (fun h => (.tail _ (.tail _ (List.mem_append_right _ (.tail _ (List.mem_append_right _ (List.mem_append_right _ (List.mem_append_left _ h)))))))) (fun h => (List.mem_append.1 h).elim (fun h => (.tail _ (.tail _ (List.mem_append_left _ h)))) (fun h => (List.mem_append.1 h).elim (fun h => (.tail _ (.tail _ (List.mem_append_right _ (.tail _ (List.mem_append_left _ h)))))) (fun h => (List.mem_cons.1 h).elim (fun e => e ▸ (.head _)) (fun h => (List.mem_cons.1 h).elim (fun e => e ▸ (.tail _ (.tail _ (List.mem_append_right _ (.tail _ (List.mem_append_right _ (List.mem_append_right _ (List.mem_append_right _ (.head _))))))))) (fun h => (List.mem_cons.1 h).elim (fun e => e ▸ (.tail _ (.head _))) (fun h => (List.mem_cons.1 h).elim (fun e => e ▸ (.tail _ (.tail _ (List.mem_append_right _ (.head _))))) (fun h => (.tail _ (.tail _ (List.mem_append_right _ (.tail _ (List.mem_append_right _ (List.mem_append_right _ (List.mem_append_right _ (.tail _ h)))))))))))))))))), (q932.sub (fun i h => (List.mem_append.1 h).elim (fun h => (.tail _ (.tail _ (List.mem_append_right _ (.tail _ (List.mem_append_right _ (List.mem_append_left _ h))))))) (fun h => (List.mem_append.1 h).elim (fun h => (.tail _ (.tail _ (List.mem_append_right _ (.tail _ (List.mem_append_right _ (List.mem_append_right _ (List.mem_append_left _ h)))))))) (fun h => (List.mem_append.1 h).elim (fun h => (.tail _ (.tail _ (List.mem_append_left _ h)))) (fun h => (List.mem_append.1 h).elim (fun h => (.tail _ (.tail _ (List.mem_append_right _ (.tail _ (List.mem_append_left _ h)))))) (fun h => (List.mem_cons.1 h).elim (fun e => e ▸ (.head _)) (fun h => (List.mem_cons.1 h).elim (fun e => e ▸ (.tail _ (.tail _ (List.mem_append_right _ (.tail _ (List.mem_append_right _ (List.mem_append_right _ (List.mem_append_right _ (.head _))))))))) (fun h => (List.mem_cons.1 h).elim (fun e => e ▸ (.tail _ (.head _))) (fun h => (List.mem_cons.1 h).elim (fun e => e ▸ (.tail _ (.tail _ (List.mem_append_right _ (.head _))))) (fun h => (.tail _ (.tail _ (List.mem_append_right _ (.tail _ (List.mem_append_right _ (List.mem_append_right _ (List.mem_append_right _ (.tail _ h)))))))))))))))))), (cx942.sub (fun i h => (List.mem_append.1 h).elim (fun h => (.tail _ (.tail _ (List.mem_append_right _ (.tail _ (List.mem_append_right _ (List.mem_append_left _ h))))))) (fun h => (List.mem_append.1 h).elim (fun h => (.tail _ (.tail _ (List.mem_append_right _ (.tail _ (List.mem_append_right _ (List.mem_append_right _ (List.mem_append_left _ h)))))))) (fun h => (List.mem_append.1 h).elim (fun h => (.tail _ (.tail _ (List.mem_append_left _ h)))) (fun h => (List.mem_append.1 h).elim (fun h => (.tail _ (.tail _ (List.mem_append_right _ (.tail _ (List.mem_append_left _ h)))))) (fun h => (List.mem_cons.1 h).elim (fun e => e ▸ (.head _)) (fun h => (List.mem_cons.1 h).elim (fun e => e ▸ (.tail _ (.tail _ (List.mem_append_right _ (.tail _ (List.mem_append_right _ (List.mem_append_right _ (List.mem_append_right _ (.head _))))))))) (fun h => (List.mem_cons.1 h).elim (fun e => e ▸ (.tail _ (.head _))) (fun h => (List.mem_cons.1 h).elim (fun e => e ▸ (.tail _ (.tail _ (List.mem_append_right _ (.head _))))) (fun h => (.tail _ (.tail _ (List.mem_append_right _ (.tail _ (List.mem_append_right _ (List.mem_append_right _ (List.mem_append_right _ (.tail _ h)))))))))))))))))), (fun x hx hl => D933.dl (i := 5) rfl x hx (.tail _ hl)), (frC f937 hs939 cx810.g.sz), (D933.bo (i := 1) (j := 5) rfl rfl rfl), (D933.bo (i := 3) (j := 5) rfl rfl rfl), (fun hb => D933.dl (i := 5) rfl _ hb (.head _)), (D933.bo (i := 0) (j := 5) rfl rfl rfl), (fun x hx hl => D933.dl (i := 6) rfl x hx (.tail _ hl)), (frC f938 hs939 cx810.g.sz), (D933.bo (i := 1) (j := 6) rfl rfl rfl), (D933.bo (i := 3) (j := 6) rfl rfl rfl), (fun hb => D933.dl (i := 6) rfl _ hb (.head _)), (D933.bo (i := 0) (j := 6) rfl rfl rfl), (D933.dj (i := 5) (j := 6) rfl rfl rfl), (fun x hx hl => D933.dl (i := 2) rfl x hx (.tail _ hl)), (frC f936 hs939 cx810.g.sz), (D933.bo (i := 1) (j := 2) rfl rfl rfl), (D933.ob (i := 2) (j := 3) rfl rfl rfl), (fun hb => D933.dl (i := 2) rfl _ hb (.head _)), (D933.bo (i := 0) (j := 2) rfl rfl rfl), (djs (D933.dj (i := 2) (j := 5) rfl rfl rfl)), (djs (D933.dj (i := 2) (j := 6) rfl rfl rfl)), n400, n401, n402, n403, n404, n405, (djs (D933.dj (i := 4) (j := 5) rfl rfl rfl)), (djs (D933.dj (i := 4) (j := 6) rfl rfl rfl)), (D933.dj (i := 2) (j := 4) rfl rfl rfl), h⟩))
 replace h := (ifN hb963).symm.trans h
 refine wp_skip (thenN ?_)
 refine wp_seq ?_
 refine wp_seq ?_
 refine reg ?_
 refine s1 pg962.z (okMv s960) rfl fun a983 p984 s985 => ?_
 refine s1 p984.z (okEq s985 cst) rfl fun a986 p987 s988 => ?_
 refine rN (thenN ?_)
 refine cnd s988 (fun hb989 => ?_) (fun hb989 => ?_)
 ·replace h := (ifP hb989).symm.trans h
  refine reg ?_
  refine s1 p987.z (okAs cst) rfl fun a990 p991 s992 => ?_
  refine rN (thenN ?_)
  refine wp_seq ?_
  refine regS mixed (by kernel_rfl) ?_
  have g993 := G.drew w918
  have cx994 := cx942.ca g993
  have s995 := p991.o (p987.o (p984.o (pg962.o s876 rfl) rfl) rfl) rfl
  refine t1 p991.z (okMv s995) rfl fun a996 p997 s998 => ?_
  refine t1 p997.z (okNil s998) rfl fun a999 p1000 s1001 => ?_
  refine t1 p1000.z (okFA (o' := 4) fo68_4 s1001 rfl) rfl fun a1002 p1003 s1004 => ?_
  have m1005 := m925.g0 g993
  refine t1 p1003.z (okLd (j := 4) na30 s1004 (m1005.cl) rfl rfl) rfl fun a1006 p1007 s1008 => ?_
  have s1009 := p1007.o (p1003.o (p1000.o (p997.o s995 rfl) rfl) rfl) rfl
  refine t1 p1007.z (okMv s1009) rfl fun a1010 p1011 s1012 => ?_
  refine t1 p1011.z (okNil s1012) rfl fun a1013 p1014 s1015 => ?_
  refine t1 p1014.z (okFA (o' := 5) fo68_5 s1015 rfl) rfl fun a1016 p1017 s1018 => ?_
  refine t1 p1017.z (okLd (j := 5) na31 s1018 (m1005.cl) rfl rfl) rfl fun a1019 p1020 s1021 => ?_
  have s1022 := p1020.o (p1017.o (p1014.o (p1011.o (p1007.o (p1003.o (p1000.o (p997.o s992 rfl) rfl) rfl) rfl) rfl) rfl) rfl) rfl
  refine t1 p1020.z (okMv s1022) rfl fun a1023 p1024 s1025 => ?_
  have s1026 := p1024.o (p1020.o (p1017.o (p1014.o (p1011.o s1009 rfl) rfl) rfl) rfl) rfl
  refine t1 p1024.z (okMv s1026) rfl fun a1027 p1028 s1029 => ?_
  refine t1 p1028.z (okNil s1029) rfl fun a1030 p1031 s1032 => ?_
  refine t1 p1031.z (okFA (o' := 6) fo68_6 s1032 rfl) rfl fun a1033 p1034 s1035 => ?_
  refine t1 p1034.z (okLd (j := 6) na2 s1035 (m1005.cl) rfl rfl) rfl fun a1036 p1037 s1038 => ?_
  have s1039 := p1037.o (p1034.o (p1031.o (p1028.o (p1024.o (p1020.o (p1017.o (p1014.o (p1011.o s1008 rfl) rfl) rfl) rfl) rfl) rfl) rfl) rfl) rfl
  refine t1 p1037.z (okAs s1039) rfl fun a1040 p1041 s1042 => ?_
  have s1043 := p1041.o (p1037.o (p1034.o (p1031.o (p1028.o (p1024.o s1021 rfl) rfl) rfl) rfl) rfl) rfl
  refine t1 p1041.z (okAs s1043) rfl fun a1044 p1045 s1046 => ?_
  have s1047 := p1045.o (p1041.o (p1037.o (p1034.o (p1031.o (p1028.o s1025 rfl) rfl) rfl) rfl) rfl) rfl
  refine t1 p1045.z (okAs s1047) rfl fun a1048 p1049 s1050 => ?_
  have s1051 := p1049.o (p1045.o (p1041.o s1038 rfl) rfl) rfl
  refine t1 p1049.z (okAs s1051) rfl fun a1052 p1053 s1054 => ?_
  refine t1 p1053.z (okAs cst) rfl fun a1055 p1056 s1057 => ?_
  refine tN (thenN ?_)
  have s1058 := p1056.o (p1053.o (p1049.o (p1045.o s1042 rfl) rfl) rfl) rfl
  have s1059 := p1056.o (p1053.o (p1049.o s1046 rfl) rfl) rfl
  have s1060 := p1056.o (p1053.o s1050 rfl) rfl
  have s1061 := p1056.o s1054 rfl
  obtain rfl := Option.some.inj h
  have q1062 := q931.t0 g993.t0 g993
  have q1063 := q932.t0 g993.t0 g993
  have m1064 := m927.g0 g993
  have q1065 := q928.t0 g993.t0 g993
  have m1066 := m929.g0 g993
  have q1067 := q930.t0 g993.t0 g993
  exact wp_ret (jumpR (ret5 p1056.z Try.results10 (rvT s1058) (rvT s1059) (rvT s1060) (rvT s1061) (rvT s1057) ⟨_, rfl, h923, h924, .nilIface, h922, h341, rfl, (q1062.rd (fun i h => (List.mem_cons.1 h).elim (fun e => e ▸ (.tail _ (.head _))) (fun h => (List.mem_append.1 h).elim (fun h => (.tail _ (.tail _ (List.mem_append_left _ h)))) (fun h => (List.mem_cons.1 h).elim (fun e => e ▸ (.tail _ (.tail _ (List.mem_append_right _ (.head _))))) (fun h => (List.mem_append.1 h).elim (fun h => (.tail _ (.tail _ (List.mem_append_right _ (.tail _ (List.mem_append_left _ h)))))) (fun h => (.tail _ (.tail _ (List.mem_append_right _ (.tail _ (List.mem_append_right _ (List.mem_append_right _ (List.mem_append_right _ (.tail _ h))))))))))))) (fun x hx => (nc (nbo (D933.bo (i := 1) (j := 5) rfl rfl rfl) hx) (na ((djs (D933.dj (i := 2) (j := 5) rfl rfl rfl)) x hx) (nc (nbo (D933.bo (i := 3) (j := 5) rfl rfl rfl) hx) (na ((djs (D933.dj (i := 4) (j := 5) rfl rfl rfl)) x hx) ((fun x hx hl => D933.dl (i := 5) rfl x hx (.tail _ hl)) x hx))))))), (q1063.rd (fun i h => (List.mem_cons.1 h).elim (fun e => e ▸ (.tail _ (.head _))) (fun h => (List.mem_append.1 h).elim (fun h => (.tail _ (.tail _ (List.mem_append_left _ h)))) (fun h => (List.mem_cons.1 h).elim (fun e => e ▸ (.tail _ (.tail _ (List.mem_append_right _ (.head _))))) (fun h => (List.mem_append.1 h).elim (fun h => (.tail _ (.tail _ (List.mem_append_right _ (.tail _ (List.mem_append_left _ h)))))) (fun h => (.tail _ (.tail _ (List.mem_append_right _ (.tail _ (List.mem_append_right _ (List.mem_append_right _ (List.mem_append_right _ (.tail _ h))))))))))))) (fun x hx => (nc (nbo (D933.bo (i := 1) (j := 6) rfl rfl rfl) hx) (na ((djs (D933.dj (i := 2) (j := 6) rfl rfl rfl)) x hx) (nc (nbo (D933.bo (i := 3) (j := 6) rfl rfl rfl) hx) (na ((djs (D933.dj (i := 4) (j := 6) rfl rfl rfl)) x hx) ((fun x hx hl => D933.dl (i := 6) rfl x hx (.tail _ hl)) x hx))))))), ErG.nil, m1064, (q1065.sub (fun i h => (List.mem_cons.1 h).elim (fun e => e ▸ (.tail _ (.head _))) (fun h => (List.mem_append.1 h).elim (fun h => (.tail _ (.tail _ (List.mem_append_left _ h)))) (fun h => (List.mem_cons.1 h).elim (fun e => e ▸ (.tail _ (.tail _ (List.mem_append_right _ (.head _))))) (fun h => (List.mem_append.1 h).elim (fun h => (.tail _ (.tail _ (List.mem_append_right _ (.tail _ (List.mem_append_left _ h)))))) (fun h => (.tail _ (.tail _ (List.mem_append_right _ (.tail _ (List.mem_append_right _ (List.mem_append_right _ (List.mem_append_right _ (.tail _ h)))))))))))))), m1066, (q1067.sub (fun i h => (List.mem_cons.1 h).elim (fun e => e ▸ (.tail _ (.head _))) (fun h => (List.mem_append.1 h).elim (fun h => (.tail _ (.tail _ (List.mem_append_left _ h)))) (fun h => (List.mem_cons.1 h).elim (fun e => e ▸ (.tail _ (.tail _ (List.mem_append_right _ (.head _))))) (fun h => (List.mem_append.1 h).elim (fun h => (.tail _ (.tail _ (List.mem_append_right _ (.tail _ (List.mem_append_left _ h)))))) (fun h => (.tail _ (.tail _ (List.mem_append_right _ (.tail _ (List.mem_append_right _ (List.mem_append_right _ (List.mem_append_right _ (.tail _ h)))))))))))))), (sepC (show ∀ x ∈ [ob1], x ∉ (ownB h922 ++ (ob2 :: (ownB h341 ++ L))) from (in1 (na (D933.bo (i := 1) (j := 2) rfl rfl rfl) (nc (D.bb (i := 0) (j := 2) rfl rfl rfl) (na n402 (D.bl (i := 0) rfl)))))) (sepC (show ∀ x ∈ ownB h922, x ∉ (ob2 :: (ownB h341 ++ L)) from (fun x hx => (nc (nbo (D933.ob (i := 2) (j := 3) rfl rfl rfl) hx) (na ((D933.dj (i := 2) (j := 4) rfl rfl rfl) x hx) ((fun x hx hl => D933.dl (i := 2) rfl x hx (.tail _ hl)) x hx))))) (sepC (show ∀ x ∈ [ob2], x ∉ (ownB h341 ++ L) from (in1 (na n403 (D.bl (i := 2) rfl)))) (sepC (show ∀ x ∈ ownB h341, x ∉ L from (fun x hx => (n400 x hx))) sepN)))), (frC f936 hs939 cx810.g.sz), n401, (show ∀ b ∈ (ob1 :: (ownB h922 ++ (ob2 :: (ownB h341 ++ L)))), b < w918.drew.heap.size from (fun i h => cx994.lt i ((List.mem_cons.1 h).elim (fun e => e ▸ (.tail _ (.head _))) (fun h => (List.mem_append.1 h).elim (fun h => (.tail _ (.tail _ (List.mem_append_left _ h)))) (fun h => (List.mem_cons.1 h).elim (fun e => e ▸ (.tail _ (.tail _ (List.mem_append_right _ (.head _))))) (fun h => (List.mem_append.1 h).elim (fun h => (.tail _ (.tail _ (List.mem_append_right _ (.tail _ (List.mem_append_left _ h)))))) (fun h => (.tail _ (.tail _ (List.mem_append_right _ (.tail _ (List.mem_append_right _ (List.mem_append_right _ (List.mem_append_right _ (.tail _ h))))))))))))))), cx994.g⟩))
 replace h := (ifN hb989).symm.trans h
 refine wp_skip (thenN ?_)
 refine wp_seq ?_
 refine regS mixed (by kernel_rfl) ?_
 have g1068 := G.drew w918
 have cx1069 := cx942.ca g1068
 have s1070 := p987.o (p984.o (pg962.o s876 rfl) rfl) rfl
 refine t1 p987.z (okMv s1070) rfl fun a1071 p1072 s1073 => ?_
 refine t1 p1072.z (okNil s1073) rfl fun a1074 p1075 s1076 => ?_
 refine t1 p1075.z (okFA (o' := 4) fo68_4 s1076 rfl) rfl fun a1077 p1078 s1079 => ?_
 have m1080 := m925.g0 g1068
 refine t1 p1078.z (okLd (j := 4) na30 s1079 (m1080.cl) rfl rfl) rfl fun a1081 p1082 s1083 => ?_
 have s1084 := p1082.o (p1078.o (p1075.o (p1072.o s1070 rfl) rfl) rfl) rfl
 refine t1 p1082.z (okMv s1084) rfl fun a1085 p1086 s1087 => ?_
 refine t1 p1086.z (okNil s1087) rfl fun a1088 p1089 s1090 => ?_
 refine t1 p1089.z (okFA (o' := 5) fo68_5 s1090 rfl) rfl fun a1091 p1092 s1093 => ?_
 refine t1 p1092.z (okLd (j := 5) na31 s1093 (m1080.cl) rfl rfl) rfl fun a1094 p1095 s1096 => ?_
 have s1097 := p1095.o (p1092.o (p1089.o (p1086.o (p1082.o (p1078.o (p1075.o (p1072.o (p987.o (p984.o s960 rfl) rfl) rfl) rfl) rfl) rfl) rfl) rfl) rfl) rfl
 refine t1 p1095.z (okMv s1097) rfl fun a1098 p1099 s1100 => ?_
 have s1101 := p1099.o (p1095.o (p1092.o (p1089.o (p1086.o s1084 rfl) rfl) rfl) rfl) rfl
 refine t1 p1099.z (okMv s1101) rfl fun a1102 p1103 s1104 => ?_
 refine t1 p1103.z (okNil s1104) rfl fun a1105 p1106 s1107 => ?_
 refine t1 p1106.z (okFA (o' := 6) fo68_6 s1107 rfl) rfl fun a1108 p1109 s1110 => ?_
 refine t1 p1109.z (okLd (j := 6) na2 s1110 (m1080.cl) rfl rfl) rfl fun a1111 p1112 s1113 => ?_
 have s1114 := p1112.o (p1109.o (p1106.o (p1103.o (p1099.o (p1095.o (p1092.o (p1089.o (p1086.o s1083 rfl) rfl) rfl) rfl) rfl) rfl) rfl) rfl) rfl
 refine t1 p1112.z (okAs s1114) rfl fun a1115 p1116 s1117 => ?_
 have s1118 := p1116.o (p1112.o (p1109.o (p1106.o (p1103.o (p1099.o s1096 rfl) rfl) rfl) rfl) rfl) rfl
 refine t1 p1116.z (okAs s1118) rfl fun a1119 p1120 s1121 => ?_
 have s1122 := p1120.o (p1116.o (p1112.o (p1109.o (p1106.o (p1103.o s1100 rfl) rfl) rfl) rfl) rfl) rfl
 refine t1 p1120.z (okAs s1122) rfl fun a1123 p1124 s1125 => ?_
 have s1126 := p1124.o (p1120.o (p1116.o s1113 rfl) rfl) rfl
 refine t1 p1124.z (okAs s1126) rfl fun a1127 p1128 s1129 => ?_
 refine t1 p1128.z (okAs cst) rfl fun a1130 p1131 s1132 => ?_
 refine tN (thenN ?_)
 have s1133 := p1131.o (p1128.o (p1124.o (p1120.o s1117 rfl) rfl) rfl) rfl
 have s1134 := p1131.o (p1128.o (p1124.o s1121 rfl) rfl) rfl
 have s1135 := p1131.o (p1128.o s1125 rfl) rfl
 have s1136 := p1131.o s1129 rfl
 obtain rfl := Option.some.inj h
 have q1137 := q931.t0 g1068.t0 g1068
 have q1138 := q932.t0 g1068.t0 g1068
 have m1139 := m927.g0 g1068
 have q1140 := q928.t0 g1068.t0 g1068
 have m1141 := m929.g0 g1068
 have q1142 := q930.t0 g1068.t0 g1068
 exact wp_ret (jumpR (ret5 p1131.z Try.results10 (rvT s1133) (rvT s1134) (rvT s1135) (rvT s1136) (rvT s1132) ⟨_, rfl, h923, h924, .nilIface, h922, h341, rfl, (q1137.rd (fun i h => (List.mem_cons.1 h).elim (fun e => e ▸ (.tail _ (.head _))) (fun h => (List.mem_append.1 h).elim (fun h => (.tail _ (.tail _ (List.mem_append_left _ h)))) (fun h => (List.mem_cons.1 h).elim (fun e => e ▸ (.tail _ (.tail _ (List.mem_append_right _ (.head _))))) (fun h => (List.mem_append.1 h).elim (fun h => (.tail _ (.tail _ (List.mem_append_right _ (.tail _ (List.mem_append_left _ h)))))) (fun h => (.tail _ (.tail _ (List.mem_append_right _ (.tail _ (List.mem_append_right _ (List.mem_append_right _ (List.mem_append_right _ (.tail _ h))))))))))))) (fun x hx => (nc (nbo (D933.bo (i := 1) (j := 5) rfl rfl rfl) hx) (na ((djs (D933.dj (i := 2) (j := 5) rfl rfl rfl)) x hx) (nc (nbo (D933.bo (i := 3) (j := 5) rfl rfl rfl) hx) (na ((djs (D933.dj (i := 4) (j := 5) rfl rfl rfl)) x hx) ((fun x hx hl => D933.dl (i := 5) rfl x hx (.tail _ hl)) x hx))))))), (q1138.rd (fun i h => (List.mem_cons.1 h).elim (fun e => e ▸ (.tail _ (.head _))) (fun h => (List.mem_append.1 h).elim (fun h => (.tail _ (.tail _ (List.mem_append_left _ h)))) (fun h => (List.mem_cons.1 h).elim (fun e => e ▸ (.tail _ (.tail _ (List.mem_append_right _ (.head _))))) (fun h => (List.mem_append.1 h).elim (fun h => (.tail _ (.tail _ (List.mem_append_right _ (.tail _ (List.mem_append_left _ h)))))) (fun h => (.tail _ (.tail _ (List.mem_append_right _ (.tail _ (List.mem_append_right _ (List.mem_append_right _ (List.mem_append_right _ (.tail _ h))))))))))))) (fun x hx => (nc (nbo (D933.bo (i := 1) (j := 6) rfl rfl rfl) hx) (na ((djs (D933.dj (i := 2) (j := 6) rfl rfl rfl)) x hx) (nc (nbo (D933.bo (i := 3) (j := 6) rfl rfl rfl) hx) (na ((djs (D933.dj (i := 4) (j := 6) rfl rfl rfl)) x hx) ((fun x hx hl => D933.dl (i := 6) rfl x hx (.tail _ hl)) x hx))))))), ErG.nil, m1139, (q1140.sub (fun i h => (List.mem_cons.1 h).elim (fun e => e ▸ (.tail _ (.head _))) (fun h => (List.mem_append.1 h).elim (fun h => (.tail _ (.tail _ (List.mem_append_left _ h)))) (fun h => (List.mem_cons.1 h).elim (fun e => e ▸ (.tail _ (.tail _ (List.mem_append_right _ (.head _))))) (fun h => (List.mem_append.1 h).elim (fun h => (.tail _ (.tail _ (List.mem_append_right _ (.tail _ (List.mem_append_left _ h)))))) (fun h => (.tail _ (.tail _ (List.mem_append_right _ (.tail _ (List.mem_append_right _ (List.mem_append_right _ (List.mem_append_right _ (.tail _ h)))))))))))))), m1141, (q1142.sub (fun i h => (List.mem_cons.1 h).elim (fun e => e ▸ (.tail _ (.head _))) (fun h => (List.mem_append.1 h).elim (fun h => (.tail _ (.tail _ (List.mem_append_left _ h)))) (fun h => (List.mem_cons.1 h).elim (fun e => e ▸ (.tail _ (.tail _ (List.mem_append_right _ (.head _))))) (fun h => (List.mem_append.1 h).elim (fun h => (.tail _ (.tail _ (List.mem_append_right _ (.tail _ (List.mem_append_left _ h)))))) (fun h => (.tail _ (.tail _ (List.mem_append_right _ (.tail _ (List.mem_append_right _ (List.mem_append_right _ (List.mem_append_right _ (.tail _ h)))))))))))))), (sepC (show ∀ x ∈ [ob1], x ∉ (ownB h922 ++ (ob2 :: (ownB h341 ++ L))) from (in1 (na (D933.bo (i := 1) (j := 2) rfl rfl rfl) (nc (D.bb (i := 0) (j := 2) rfl rfl rfl) (na n402 (D.bl (i := 0) rfl)))))) (sepC (show ∀ x ∈ ownB h922, x ∉ (ob2 :: (ownB h341 ++ L)) from (fun x hx => (nc (nbo (D933.ob (i := 2) (j := 3) rfl rfl rfl) hx) (na ((D933.dj (i := 2) (j := 4) rfl rfl rfl) x hx) ((fun x hx hl => D933.dl (i := 2) rfl x hx (.tail _ hl)) x hx))))) (sepC (show ∀ x ∈ [ob2], x ∉ (ownB h341 ++ L) from (in1 (na n403 (D.bl (i := 2) rfl)))) (sepC (show ∀ x ∈ ownB h341, x ∉ L from (fun x hx => (n400 x hx))) sepN)))), (frC f936 hs939 cx810.g.sz), n401, (show ∀ b ∈ (ob1 :: (ownB h922 ++ (ob2 :: (ownB h341 ++ L)))), b < w918.drew.heap.size from (fun i h => cx1069.lt i ((List.mem_cons.1 h).elim (fun e => e ▸ (.tail _ (.head _))) (fun h => (List.mem_append.1 h).elim (fun h => (.tail _ (.tail _ (List.mem_append_left _ h)))) (fun h => (List.mem_cons.1 h).elim (fun e => e ▸ (.tail _ (.tail _ (List.mem_append_right _ (.head _))))) (fun h => (List.mem_append.1 h).elim (fun h => (.tail _ (.tail _ (List.mem_append_right _ (.tail _ (List.mem_append_left _ h)))))) (fun h => (.tail _ (.tail _ (List.mem_append_right _ (.tail _ (List.mem_append_right _ (List.mem_append_right _ (List.mem_append_right _ (.tail _ h))))))))))))))), cx1069.g⟩))

set_option maxHeartbeats 4000000 in
set_option maxRecDepth 100000 in
theorem c10_n1 (L : List Nat) (w : World) (x0 : List TIns) (hp0 : Value) (x2 : Tpermit_Table) (ob2 : Nat) (hp2_0 : Value) (x3 : Int) (x4 : List TFrame) (hp4 : Value) (hL : ∀ b ∈ (ob2 :: (ownB hp2_0 ++ L)), b < w.heap.size) (D : Sep [[ob2], ownB hp2_0] L) (qhp0 : RdS KTIns (ob2 :: (ownB hp2_0 ++ L)) w hp0 x0) (mob2 : Bk w ob2 (Tpermit_Table.C x2 hp2_0) 78) (qhp2_0 : OwnS KTPark 59 (ob2 :: (ownB hp2_0 ++ L)) w hp2_0 x2.l) (qhp4 : RdS KTFrame (ob2 :: (ownB hp2_0 ++ L)) w hp4 x4) (r : (List TFrame) × (List TNote) × Int × Int × Er) (h : micro_Step_n1 x0 x2 x3 x4 = some r) : Calls Try.prog 10 #[hp0, .pointer none, ptr ob2 0, .int .i64 x3, hp4] w (fun e w' => ∃ v, e = .returned v ∧ ∃ u0_0 u1_0 u4_0, v = .tuple #[u0_0, u1_0, .int .i64 r.2.2.1, .int .i64 r.2.2.2.1, u4_0] ∧ RdS KTFrame (ob2 :: (ownB hp2_0 ++ L)) w' u0_0 r.1 ∧ RdS KTNote (ob2 :: (ownB hp2_0 ++ L)) w' u1_0 r.2.1 ∧ ErG 36 0 (ob2 :: (ownB hp2_0 ++ L)) w' u4_0 r.2.2.2.2 ∧ G ([] : List Nat) w w') := by
 refine enterF Try.func10 rfl rfl fun a0 z0 A => ?_
 have s0_0 := A 0 (hp0) rfl
 have s0_1 := A 1 (.pointer none) rfl
 have s0_2 := A 2 (ptr ob2 0) rfl
 have s0_3 := A 3 (.int .i64 x3) rfl
 have s0_4 := A 4 (hp4) rfl
 clear A
 have hLb : ∀ b ∈ L, b < w.heap.size := fun b h => hL b (.tail _ (List.mem_append_right _ h))
 have c0 : Cx ([] : List Nat) w (ob2 :: (ownB hp2_0 ++ L)) w := ⟨G.refl _ _, hL⟩
 unfold micro_Step_n1 at h
 refine wp_seq ?_
 refine reg ?_
 refine s1 z0 (okAs cst) rfl fun a1 p2 s3 => ?_
 refine s1 p2.z (okAs cst) rfl fun a4 p5 s6 => ?_
 refine s1 p5.z (okAs cst) rfl fun a7 p8 s9 => ?_
 refine s1 p8.z (okAs cst) rfl fun a10 p11 s12 => ?_
 refine s1 p11.z (okAs cst) rfl fun a13 p14 s15 => ?_
 refine rN (thenN ?_)
 refine scopeX 0 rfl ?_
 refine wp_seq ?_
 refine wp_seq ?_
 refine reg ?_
 have s16 := p14.o (p11.o (p8.o (p5.o (p2.o s0_1 rfl) rfl) rfl) rfl) rfl
 refine s1 p14.z (okMv s16) rfl fun a17 p18 s19 => ?_
 refine s1 p18.z (okNEq Try.underlying24 s19 cst) rfl fun a20 p21 s22 => ?_
 refine s1 p21.z (okMv s22) rfl fun a23 p24 s25 => ?_
 refine s1k p24.z rfl (yd p24.z rfl rfl s25) rfl fun a26 p27 s28 => ?_
 have s29 := p27.o s25 rfl
 refine s1k p27.z rfl (yd p27.z rfl rfl s29) rfl fun a30 p31 s32 => ?_
 have s33 := p31.o s29 rfl
 refine s1 p31.z (okPickT s33 cst) rfl fun a34 p35 s36 => ?_
 refine s1 p35.z (okMv s36) rfl fun a37 p38 s39 => ?_
 refine s1k p38.z rfl (yd p38.z rfl rfl s39) rfl fun a40 p41 s42 => ?_
 have s43 := p41.o s39 rfl
 refine s1k p41.z rfl (yd p41.z rfl rfl s43) rfl fun a44 p45 s46 => ?_
 have s47 := p45.o s43 rfl
 refine s1k p45.z rfl (yd p45.z rfl rfl s47) rfl fun a48 p49 s50 => ?_
 have s51 := p49.o s47 rfl
 refine s1 p49.z (okPickT s51 cst) rfl fun a52 p53 s54 => ?_
 refine s1 p53.z (okMv s54) rfl fun a55 p56 s57 => ?_
 refine s1k p56.z rfl (yd p56.z rfl rfl s57) rfl fun a58 p59 s60 => ?_
 have s61 := p59.o s57 rfl
 refine s1k p59.z rfl (yd p59.z rfl rfl s61) rfl fun a62 p63 s64 => ?_
 have s65 := p63.o s61 rfl
 refine s1k p63.z rfl (yd p63.z rfl rfl s65) rfl fun a66 p67 s68 => ?_
 have s69 := p67.o s65 rfl
 refine s1 p67.z (okPickT s69 cst) rfl fun a70 p71 s72 => ?_
 refine rN (thenN ?_)
 refine wp_cond_true s72 ?_
 refine wp_seq ?_
 refine reg ?_
 refine s1 p71.z (okMkI Try.underlying36 cst _) rfl fun a73 p74 s75 => ?_
 refine s1 p74.z (okAs cst) rfl fun a76 p77 s78 => ?_
 refine s1 p77.z (okAs cst) rfl fun a79 p80 s81 => ?_
 refine s1 p80.z (okAs cst) rfl fun a82 p83 s84 => ?_
 refine s1 p83.z (okAs cst) rfl fun a85 p86 s87 => ?_
 have s88 := p86.o (p83.o (p80.o (p77.o s75 rfl) rfl) rfl) rfl
 refine s1 p86.z (okAs s88) rfl fun a89 p90 s91 => ?_
 refine rN (thenN ?_)
 have s92 := p90.o (p86.o (p83.o (p80.o s78 rfl) rfl) rfl) rfl
 have s93 := p90.o (p86.o (p83.o s81 rfl) rfl) rfl
 have s94 := p90.o (p86.o s84 rfl) rfl
 have s95 := p90.o s87 rfl
 obtain rfl := Option.some.inj h
 exact wp_ret (thenR (jumpR (ret5 p90.z Try.results10 (rvT s92) (rvT s93) (rvT s94) (rvT s95) (rvT s91) ⟨_, rfl, (.slice none 0 0), (.slice none 0 0), (.iface 36 (.int .i64 1)), rfl, RdS.nil, RdS.nil, ErG.code, c0.g⟩)))

set_option maxHeartbeats 4000000 in
set_option maxRecDepth 100000 in
theorem c7 (k : Nat) (L : List Nat) (w : World) (hL : ∀ b ∈ L, b < w.heap.size)  (r : Bool) (h : tholelaw09_up k = some r) : Calls Try.prog 7 #[] w (fun e w' => ∃ v, e = .returned v ∧ v = .bool r ∧ G [] w w') := by
 refine enterF Try.func7 rfl rfl fun a0 z0 A => ?_
 clear A
 have c0 : Cx [] w L w := ⟨G.refl _ _, hL⟩
 unfold tholelaw09_up at h
 refine wp_seq ?_
 refine reg ?_
 refine s1 z0 (okAs cst) rfl fun a1 p2 s3 => ?_
 refine rN (thenN ?_)
 refine wp_seq ?_
 refine reg ?_
 obtain ⟨t4, ht5, h⟩ := Option.bind_eq_some_iff.1 h
 refine lS (oCall p2.z Try.call8 (ag2 cst cst) (c8 k L w [] (.slice none 0 0) 1 c0.lt sepN RdS.nil _ ht5) rfl fun v9 a6 w7 hp10 p8 sp8 => ?_)
 obtain ⟨u11, I12, u13, I14, rfl, po15, po16, D17, f20, f21, lt18, g19⟩ := hp10
 obtain ho22 | ⟨y23, ho22⟩ := oNS t4.1
 ·rw [ho22] at po15
  obtain ⟨rfl, rfl⟩ := po15
  replace h := (omN ho22).symm.trans h
  obtain ho24 | ⟨y25, ho24⟩ := oNS t4.2
  ·rw [ho24] at po16
   obtain ⟨rfl, rfl⟩ := po16
   replace h := (omN ho24).symm.trans h
   have D26 : Sep [] L := D17
   have lt27 : ∀ b ∈ L, b < w7.heap.size := lt18
   have hs28 : ∀ i ∈ ([] : List Nat), i ∈ [] ∨ w.heap.size ≤ i := memN
   have hs29 : ∀ i ∈ ([] : List Nat), i ∈ L := memN
   have t30 : Tr L w L w7 := G.tC g19 hs29 (fun i h => .inl h)
   have cx31 := c0.gs g19 hs28 lt27
   refine s1 p8.z (okMv sp8) rfl fun a32 p33 s34 => ?_
   refine s1 p33.z (okExt (vs := [_, _]) s34 rfl) rfl fun a35 p36 s37 => ?_
   have s38 := p36.o s34 rfl
   refine s1 p36.z (okExt (vs := [_, _]) s38 rfl) rfl fun a39 p40 s41 => ?_
   have s42 := p40.o s37 rfl
   refine s1 p40.z (okAs s42) rfl fun a43 p44 s45 => ?_
   have s46 := p44.o s41 rfl
   refine s1 p44.z (okAs s46) rfl fun a47 p48 s49 => ?_
   refine rN (thenN ?_)
   refine wp_seq ?_
   refine wp_seq ?_
   refine reg ?_
   have s50 := p48.o s45 rfl
   refine s1 p48.z (okMv s50) rfl fun a51 p52 s53 => ?_
   refine s1 p52.z (okNEq Try.underlying24 s53 cst) rfl fun a54 p55 s56 => ?_
   refine rN (thenN ?_)
   refine wp_cond_true s56 ?_
   refine wp_seq ?_
   refine reg ?_
   refine s1 p55.z (okAs cst) rfl fun a57 p58 s59 => ?_
   refine rN (thenN ?_)
   obtain rfl := Option.some.inj h
   exact wp_ret (thenR (ret1 p58.z Try.results7 (rvT s59) ⟨_, rfl, rfl, cx31.g⟩))
  ·rw [ho24] at po16
   obtain ⟨oby25, hpy25_0, rfl, rfl, q60, q61⟩ := po16
   replace h := (omS ho24).symm.trans h
   have D62 : Sep [[oby25], ownB hpy25_0] L := D17
   have lt63 : ∀ b ∈ (oby25 :: (ownB hpy25_0 ++ L)), b < w7.heap.size := lt18
   have hs64 : ∀ i ∈ ([] : List Nat), i ∈ [] ∨ w.heap.size ≤ i := memN
   have hs65 : ∀ i ∈ ([] : List Nat), i ∈ L := memN
   have t66 : Tr L w (oby25 :: (ownB hpy25_0 ++ L)) w7 := G.tC g19 hs65 (memC (.inr (f21 _ (List.mem_append_left _ (.head _)))) (memA (fun x hx => .inr ((fun _ h => f21 _ (List.mem_append_right _ (List.mem_append_left _ h))) x hx)) (fun i h => .inl h)))
   have cx67 := c0.gs g19 hs64 lt63
   have q68 : OwnS KTPark 59 (oby25 :: (ownB hpy25_0 ++ L)) w7 hpy25_0 y25.l := q61
   refine s1 p8.z (okMv sp8) rfl fun a69 p70 s71 => ?_
   refine s1 p70.z (okExt (vs := [_, _]) s71 rfl) rfl fun a72 p73 s74 => ?_
   have s75 := p73.o s71 rfl
   refine s1 p73.z (okExt (vs := [_, _]) s75 rfl) rfl fun a76 p77 s78 => ?_
   have s79 := p77.o s74 rfl
   refine s1 p77.z (okAs s79) rfl fun a80 p81 s82 => ?_
   have s83 := p81.o s78 rfl
   refine s1 p81.z (okAs s83) rfl fun a84 p85 s86 => ?_
   refine rN (thenN ?_)
   refine wp_seq ?_
   refine wp_seq ?_
   refine reg ?_
   have s87 := p85.o s82 rfl
   refine s1 p85.z (okMv s87) rfl fun a88 p89 s90 => ?_
   refine s1 p89.z (okNEq Try.underlying24 s90 cst) rfl fun a91 p92 s93 => ?_
   refine rN (thenN ?_)
   refine wp_cond_true s93 ?_
   refine wp_seq ?_
   refine reg ?_
   refine s1 p92.z (okAs cst) rfl fun a94 p95 s96 => ?_
   refine rN (thenN ?_)
   obtain rfl := Option.some.inj h
   exact wp_ret (thenR (ret1 p95.z Try.results7 (rvT s96) ⟨_, rfl, rfl, cx67.g⟩))
 ·rw [ho22] at po15
  obtain ⟨oby23, hpy23_0, rfl, rfl, q97, q98⟩ := po15
  replace h := (omS ho22).symm.trans h
  obtain ho99 | ⟨y100, ho99⟩ := oNS t4.2
  ·rw [ho99] at po16
   obtain ⟨rfl, rfl⟩ := po16
   replace h := (omN ho99).symm.trans h
   have D101 : Sep [[oby23], ownB hpy23_0] L := D17
   have lt102 : ∀ b ∈ (oby23 :: (ownB hpy23_0 ++ L)), b < w7.heap.size := lt18
   have hs103 : ∀ i ∈ ([] : List Nat), i ∈ [] ∨ w.heap.size ≤ i := memN
   have hs104 : ∀ i ∈ ([] : List Nat), i ∈ L := memN
   have t105 : Tr L w (oby23 :: (ownB hpy23_0 ++ L)) w7 := G.tC g19 hs104 (memC (.inr (f20 _ (List.mem_append_left _ (.head _)))) (memA (fun x hx => .inr ((fun _ h => f20 _ (List.mem_append_right _ (List.mem_append_left _ h))) x hx)) (fun i h => .inl h)))
   have cx106 := c0.gs g19 hs103 lt102
   have q107 : OwnS (KInt .i64) 2 (oby23 :: (ownB hpy23_0 ++ L)) w7 hpy23_0 y23.l := q98
   refine s1 p8.z (okMv sp8) rfl fun a108 p109 s110 => ?_
   refine s1 p109.z (okExt (vs := [_, _]) s110 rfl) rfl fun a111 p112 s113 => ?_
   have s114 := p112.o s110 rfl
   refine s1 p112.z (okExt (vs := [_, _]) s114 rfl) rfl fun a115 p116 s117 => ?_
   have s118 := p116.o s113 rfl
   refine s1 p116.z (okAs s118) rfl fun a119 p120 s121 => ?_
   have s122 := p120.o s117 rfl
   refine s1 p120.z (okAs s122) rfl fun a123 p124 s125 => ?_
   refine rN (thenN ?_)
   refine wp_seq ?_
   refine wp_seq ?_
   refine reg ?_
   have s126 := p124.o s121 rfl
   refine s1 p124.z (okMv s126) rfl fun a127 p128 s129 => ?_
   refine s1 p128.z (okPEq Try.underlying24 s129 cst) rfl fun a130 p131 s132 => ?_
   refine rN (thenN ?_)
   refine wp_cond_false s132 ?_
   refine wp_skip (thenN ?_)
   refine wp_seq ?_
   refine reg ?_
   refine s1 p131.z (okBd (pb2 cst cst) (bd40_0_4 1 5 _)) rfl fun a133 p134 s135 => ?_
   refine s1 p134.z (okBd (pb1 cst) (bd40_0 22 _)) rfl fun a136 p137 s138 => ?_
   have s139 := p137.o s135 rfl
   refine lS (oBS (K := KTIns) (L := (oby23 :: (ownB hpy23_0 ++ L))) (xs := [(⟨1, 0, 0, 0, 5⟩ : TIns), (⟨22, 0, 0, 0, 0⟩ : TIns)]) (C := [TIns.C (⟨1, 0, 0, 0, 5⟩ : TIns), TIns.C (⟨22, 0, 0, 0, 0⟩ : TIns)]) p137.z (pb2 s139 s138) (bs22_2_0_1 (⟨1, 0, 0, 0, 5⟩ : TIns) (⟨22, 0, 0, 0, 0⟩ : TIns)) rfl rfl (all2C rfl (all2C rfl all2N)) rfl rfl fun a140 v141 w142 p143 sp143 q144 g145 f146 => ?_)
   have f147 := frN f146
   have nb148 := nbA hL cx106.g.sz (fun _ h => nilO h) f147
   have sf149 := sfA (S := []) cx106.g.sz (fun _ h => nilO h) f147
   have n150 := q97.no (fun h => nilO h) f147
   have n151 := q107.dj (fun _ _ h => nilO h) f147
   have cx152 := cx106.ap g145 (fun _ h => nilO h) q144
   refine s1 p143.z (okAs sp143) rfl fun a153 p154 s155 => ?_
   refine rN (thenN ?_)
   refine wp_seq ?_
   refine reg ?_
   refine s1 p154.z (okMv s155) rfl fun a156 p157 s158 => ?_
   have s159 := p157.o (p154.o (p143.o (p137.o (p134.o (p131.o (p128.o s126 rfl) rfl) rfl) rfl) rfl) rfl) rfl
   refine s1 p157.z (okMv s159) rfl fun a160 p161 s162 => ?_
   have s163 := p161.o (p157.o (p154.o (p143.o (p137.o (p134.o (p131.o (p128.o s125 rfl) rfl) rfl) rfl) rfl) rfl) rfl) rfl
   refine s1 p161.z (okMv s163) rfl fun a164 p165 s166 => ?_
   obtain ⟨t167, ht168, h⟩ := Option.bind_eq_some_iff.1 h
   refine lS (oCall p165.z Try.call12 (ag2 cst cst) (c12 (ownB v141 ++ (oby23 :: (ownB hpy23_0 ++ L))) w142 cx152.lt _ _ _ RdS.nil _ ht168) rfl fun v172 a169 w170 hp173 p171 sp171 => ?_)
   obtain ⟨q174, g175⟩ := hp173
   have cx176 := cx152.ca g175
   have s177 := p171.o (p165.o (p161.o s158 rfl) rfl) rfl
   have s178 := p171.o (p165.o s162 rfl) rfl
   have s179 := p171.o s166 rfl
   have q180 := q144.t0 g175.t0 g175
   have q181 : RdS KTIns (oby23 :: (ownB hpy23_0 ++ L)) w170 v141 [(⟨1, 0, 0, 0, 5⟩ : TIns), (⟨22, 0, 0, 0, 0⟩ : TIns)] := q180.rd (fun i h => (List.mem_append_right _ h)) (fun b hb => (not_cons (fun e => n150 (e ▸ hb)) (not_app ((djs n151) _ hb) (nb148 _ hb))))
   have cx182 := cx176.sub (fun i h => (List.mem_append_right _ h))
   have m183 := ((q97.g0 g145).g0 g175).g0 (G.refl [] w170)
   have q184 := ((q107.t0 (tAp g145 (fun _ h => nilO h) f147) g145).t0 g175.t0 g175).t0 ((Tr.refl (ownB v141 ++ (oby23 :: (ownB hpy23_0 ++ L))) w170).sub (fun i h => (List.mem_append_right _ h))) (G.refl [] w170)
   have q185 := q174.mono ((Tr.refl (ownB v141 ++ (oby23 :: (ownB hpy23_0 ++ L))) w170).sub (fun i h => (List.mem_append_right _ h)))
   obtain ⟨t186, ht187, h⟩ := Option.bind_eq_some_iff.1 h
   refine lS (oCall p171.z Try.call10 (ag5 s177 s178 s179 cst sp171) (c10_n2 L w170 [(⟨1, 0, 0, 0, 5⟩ : TIns), (⟨22, 0, 0, 0, 0⟩ : TIns)] v141 y23 oby23 hpy23_0 0 t167 v172 cx182.lt (sepC (show ∀ x ∈ [oby23], x ∉ (ownB hpy23_0 ++ L) from (in1 (na (D101.bo (i := 0) (j := 1) rfl rfl rfl) (fun h => Nat.lt_irrefl _ (Nat.lt_of_lt_of_le (hL _ h) (Nat.le_trans c0.g.sz (f20 _ (List.mem_append_left _ (.head _))))))))) (sepC (show ∀ x ∈ ownB hpy23_0, x ∉ L from (fun x hx => ((fun x hx hl => D101.dl (i := 1) rfl x hx hl) x hx))) sepN)) q181 m183 q184 q185 _ ht187) rfl fun v191 a188 w189 hp192 p190 sp190 => ?_)
   obtain ⟨h193, h194, h195, rfl, q196, q197, q198, g201⟩ := hp192
   have cx202 := cx182.ca g201
   refine s1 p190.z (okMv sp190) rfl fun a203 p204 s205 => ?_
   refine s1 p204.z (okExt (vs := [_, _, _, _, _]) s205 rfl) rfl fun a206 p207 s208 => ?_
   have s209 := p207.o s205 rfl
   refine s1 p207.z (okExt (vs := [_, _, _, _, _]) s209 rfl) rfl fun a210 p211 s212 => ?_
   have s213 := p211.o s209 rfl
   refine s1 p211.z (okExt (vs := [_, _, _, _, _]) s213 rfl) rfl fun a214 p215 s216 => ?_
   have s217 := p215.o s213 rfl
   refine s1 p215.z (okExt (vs := [_, _, _, _, _]) s217 rfl) rfl fun a218 p219 s220 => ?_
   have s221 := p219.o s217 rfl
   refine s1 p219.z (okExt (vs := [_, _, _, _, _]) s221 rfl) rfl fun a222 p223 s224 => ?_
   have s225 := p223.o (p219.o (p215.o (p211.o s208 rfl) rfl) rfl) rfl
   refine s1 p223.z (okAs s225) rfl fun a226 p227 s228 => ?_
   have s229 := p227.o (p223.o (p219.o (p215.o s212 rfl) rfl) rfl) rfl
   refine s1 p227.z (okAs s229) rfl fun a230 p231 s232 => ?_
   have s233 := p231.o (p227.o (p223.o (p219.o s216 rfl) rfl) rfl) rfl
   refine s1 p231.z (okAs s233) rfl fun a234 p235 s236 => ?_
   have s237 := p235.o (p231.o (p227.o (p223.o s220 rfl) rfl) rfl) rfl
   refine s1 p235.z (okAs s237) rfl fun a238 p239 s240 => ?_
   have s241 := p239.o (p235.o (p231.o (p227.o s224 rfl) rfl) rfl) rfl
   refine s1 p239.z (okAs s241) rfl fun a242 p243 s244 => ?_
   refine rN (thenN ?_)
   refine wp_seq ?_
   refine reg ?_
   have s245 := p243.o (p239.o (p235.o (p231.o (p227.o (p223.o (p219.o (p215.o (p211.o (p207.o (p204.o (p190.o (p171.o (p165.o (p161.o (p157.o s155 rfl) rfl) rfl) rfl) rfl) rfl) rfl) rfl) rfl) rfl) rfl) rfl) rfl) rfl) rfl) rfl
   refine s1 p243.z (okMv s245) rfl fun a246 p247 s248 => ?_
   have s249 := p247.o (p243.o (p239.o (p235.o (p231.o (p227.o (p223.o (p219.o (p215.o (p211.o (p207.o (p204.o (p190.o (p171.o (p165.o s163 rfl) rfl) rfl) rfl) rfl) rfl) rfl) rfl) rfl) rfl) rfl) rfl) rfl) rfl) rfl
   refine s1 p247.z (okMv s249) rfl fun a250 p251 s252 => ?_
   obtain ⟨t253, ht254, h⟩ := Option.bind_eq_some_iff.1 h
   refine lS (oCall p251.z Try.call12 (ag2 cst cst) (c12 (oby23 :: (ownB hpy23_0 ++ L)) w189 cx202.lt _ _ _ RdS.nil _ ht254) rfl fun v258 a255 w256 hp259 p257 sp257 => ?_)
   obtain ⟨q260, g261⟩ := hp259
   have cx262 := cx202.ca g261
   have s263 := p257.o (p251.o s248 rfl) rfl
   have s264 := p257.o s252 rfl
   have q265 := q181.mono (g201.t0.trans g261.t0)
   have m266 := (m183.g0 g201).g0 g261
   obtain ⟨t267, ht268, h⟩ := Option.bind_eq_some_iff.1 h
   refine lS (oCall p257.z Try.call10 (ag5 s263 cst s264 cst sp257) (c10_n1_n2 (oby23 :: (ownB hpy23_0 ++ L)) w256 [(⟨1, 0, 0, 0, 5⟩ : TIns), (⟨22, 0, 0, 0, 0⟩ : TIns)] v141 0 t253 v258 cx262.lt sepN q265 q260 _ ht268) rfl fun v272 a269 w270 hp273 p271 sp271 => ?_)
   obtain ⟨h274, h275, h276, rfl, q277, q278, q279, g282⟩ := hp273
   have cx283 := cx262.ca g282
   refine s1 p271.z (okMv sp271) rfl fun a284 p285 s286 => ?_
   refine s1 p285.z (okExt (vs := [_, _, _, _, _]) s286 rfl) rfl fun a287 p288 s289 => ?_
   have s290 := p288.o s286 rfl
   refine s1 p288.z (okExt (vs := [_, _, _, _, _]) s290 rfl) rfl fun a291 p292 s293 => ?_
   have s294 := p292.o s290 rfl
   refine s1 p292.z (okExt (vs := [_, _, _, _, _]) s294 rfl) rfl fun a295 p296 s297 => ?_
   have s298 := p296.o s294 rfl
   refine s1 p296.z (okExt (vs := [_, _, _, _, _]) s298 rfl) rfl fun a299 p300 s301 => ?_
   have s302 := p300.o s298 rfl
   refine s1 p300.z (okExt (vs := [_, _, _, _, _]) s302 rfl) rfl fun a303 p304 s305 => ?_
   have s306 := p304.o (p300.o (p296.o (p292.o s289 rfl) rfl) rfl) rfl
   refine s1 p304.z (okAs s306) rfl fun a307 p308 s309 => ?_
   have s310 := p308.o (p304.o (p300.o (p296.o s293 rfl) rfl) rfl) rfl
   refine s1 p308.z (okAs s310) rfl fun a311 p312 s313 => ?_
   have s314 := p312.o (p308.o (p304.o (p300.o s297 rfl) rfl) rfl) rfl
   refine s1 p312.z (okAs s314) rfl fun a315 p316 s317 => ?_
   have s318 := p316.o (p312.o (p308.o (p304.o s301 rfl) rfl) rfl) rfl
   refine s1 p316.z (okAs s318) rfl fun a319 p320 s321 => ?_
   have s322 := p320.o (p316.o (p312.o (p308.o s305 rfl) rfl) rfl) rfl
   refine s1 p320.z (okAs s322) rfl fun a323 p324 s325 => ?_
   refine rN (thenN ?_)
   refine wp_seq ?_
   refine reg ?_
   have s326 := p324.o (p320.o (p316.o (p312.o (p308.o (p304.o (p300.o (p296.o (p292.o (p288.o (p285.o (p271.o (p257.o (p251.o (p247.o s244 rfl) rfl) rfl) rfl) rfl) rfl) rfl) rfl) rfl) rfl) rfl) rfl) rfl) rfl) rfl
   refine s1 p324.z (okMv s326) rfl fun a327 p328 s329 => ?_
   have q330 := q198.mono (g261.t0.trans g282.t0)
   refine s1 p328.z (okEEqN ef33 s329 q330 _) rfl fun a331 p332 s333 => ?_
   refine s1 p332.z (okMv s333) rfl fun a334 p335 s336 => ?_
   refine cutP 3 (fun a' => Pg Try.f7.ntmps [47, 48, 49] a334 a' ∧ a'.eval (.tmp 49) = .bool (((t186.2.2.2.2).isN) && (t186.2.2.1 == 2))) ?_ ?_
   ·rcases bf ((t186.2.2.2.2).isN) with hb337 | hb337
    ·have s338 := bv s336 hb337
     refine s1k p335.z rfl (yd p335.z rfl rfl s338) rfl fun a339 p340 s341 => ?_
     have s342 := p340.o s338 rfl
     refine s1k p340.z rfl (yd p340.z rfl rfl s342) rfl fun a343 p344 s345 => ?_
     have s346 := p344.o s342 rfl
     refine s1 p344.z (okPickF s346 cst) rfl fun a347 p348 s349 => ?_
     exact rN ⟨rfl, rfl, ((((Pg.refl p335.z).st p340 rfl).st p344 rfl).st p348 rfl), (andF hb337 s349)⟩
    ·have s350 := bv s336 hb337
     have s351 := p335.o (p332.o (p328.o (p324.o (p320.o (p316.o (p312.o (p308.o (p304.o (p300.o (p296.o (p292.o (p288.o (p285.o (p271.o (p257.o (p251.o (p247.o (p243.o (p239.o s236 rfl) rfl) rfl) rfl) rfl) rfl) rfl) rfl) rfl) rfl) rfl) rfl) rfl) rfl) rfl) rfl) rfl) rfl) rfl) rfl
     refine s1g p335.z (okMv s351) rfl (yd p335.z rfl rfl s350) fun a352 p353 s354 => ?_
     have s355 := p353.o s350 rfl
     refine s1g p353.z (okEq s354 cst) rfl (yd p353.z rfl rfl s355) fun a356 p357 s358 => ?_
     have s359 := p357.o s355 rfl
     refine s1 p357.z (okPickT s359 s358) rfl fun a360 p361 s362 => ?_
     exact rN ⟨rfl, rfl, ((((Pg.refl p335.z).st p353 rfl).st p357 rfl).st p361 rfl), (andT hb337 s362)⟩
   rintro a363 ⟨pg364, s365⟩
   refine s1 pg364.z (okMv s365) rfl fun a366 p367 s368 => ?_
   refine cutP 3 (fun a' => Pg Try.f7.ntmps [51, 52, 53] a366 a' ∧ a'.eval (.tmp 53) = .bool ((((t186.2.2.2.2).isN) && (t186.2.2.1 == 2)) && (t186.2.2.2.1 == 5))) ?_ ?_
   ·rcases bf (((t186.2.2.2.2).isN) && (t186.2.2.1 == 2)) with hb369 | hb369
    ·have s370 := bv s368 hb369
     refine s1k p367.z rfl (yd p367.z rfl rfl s370) rfl fun a371 p372 s373 => ?_
     have s374 := p372.o s370 rfl
     refine s1k p372.z rfl (yd p372.z rfl rfl s374) rfl fun a375 p376 s377 => ?_
     have s378 := p376.o s374 rfl
     refine s1 p376.z (okPickF s378 cst) rfl fun a379 p380 s381 => ?_
     exact rN ⟨rfl, rfl, ((((Pg.refl p367.z).st p372 rfl).st p376 rfl).st p380 rfl), (andF hb369 s381)⟩
    ·have s382 := bv s368 hb369
     have s383 := p367.o (pg364.o (p335.o (p332.o (p328.o (p324.o (p320.o (p316.o (p312.o (p308.o (p304.o (p300.o (p296.o (p292.o (p288.o (p285.o (p271.o (p257.o (p251.o (p247.o (p243.o s240 rfl) rfl) rfl) rfl) rfl) rfl) rfl) rfl) rfl) rfl) rfl) rfl) rfl) rfl) rfl) rfl) rfl) rfl) rfl) rfl) rfl
     refine s1g p367.z (okMv s383) rfl (yd p367.z rfl rfl s382) fun a384 p385 s386 => ?_
     have s387 := p385.o s382 rfl
     refine s1g p385.z (okEq s386 cst) rfl (yd p385.z rfl rfl s387) fun a388 p389 s390 => ?_
     have s391 := p389.o s387 rfl
     refine s1 p389.z (okPickT s391 s390) rfl fun a392 p393 s394 => ?_
     exact rN ⟨rfl, rfl, ((((Pg.refl p367.z).st p385 rfl).st p389 rfl).st p393 rfl), (andT hb369 s394)⟩
   rintro a395 ⟨pg396, s397⟩
   refine s1 pg396.z (okMv s397) rfl fun a398 p399 s400 => ?_
   refine cutP 4 (fun a' => Pg Try.f7.ntmps [55, 56, 57, 58] a398 a' ∧ a'.eval (.tmp 58) = .bool (((((t186.2.2.2.2).isN) && (t186.2.2.1 == 2)) && (t186.2.2.2.1 == 5)) && (decide (t267.2.2.2.2 = .code 1)))) ?_ ?_
   ·rcases bf ((((t186.2.2.2.2).isN) && (t186.2.2.1 == 2)) && (t186.2.2.2.1 == 5)) with hb401 | hb401
    ·have s402 := bv s400 hb401
     refine s1k p399.z rfl (yd p399.z rfl rfl s402) rfl fun a403 p404 s405 => ?_
     have s406 := p404.o s402 rfl
     refine s1k p404.z rfl (yd p404.z rfl rfl s406) rfl fun a407 p408 s409 => ?_
     have s410 := p408.o s406 rfl
     refine s1k p408.z rfl (yd p408.z rfl rfl s410) rfl fun a411 p412 s413 => ?_
     have s414 := p412.o s410 rfl
     refine s1 p412.z (okPickF s414 cst) rfl fun a415 p416 s417 => ?_
     exact rN ⟨rfl, rfl, (((((Pg.refl p399.z).st p404 rfl).st p408 rfl).st p412 rfl).st p416 rfl), (andF hb401 s417)⟩
    ·have s418 := bv s400 hb401
     have s419 := p399.o (pg396.o (p367.o (pg364.o (p335.o (p332.o (p328.o s325 rfl) rfl) rfl) rfl) rfl) rfl) rfl
     refine s1g p399.z (okMv s419) rfl (yd p399.z rfl rfl s418) fun a420 p421 s422 => ?_
     have s423 := p421.o s418 rfl
     refine s1g p421.z (okMkI Try.underlying36 cst _) rfl (yd p421.z rfl rfl s423) fun a424 p425 s426 => ?_
     have s427 := p425.o s423 rfl
     have s428 := p425.o s422 rfl
     refine s1g p425.z (okEEqC ef33 s428 q279 s426 _) rfl (yd p425.z rfl rfl s427) fun a429 p430 s431 => ?_
     have s432 := p430.o s427 rfl
     refine s1 p430.z (okPickT s432 s431) rfl fun a433 p434 s435 => ?_
     exact rN ⟨rfl, rfl, (((((Pg.refl p399.z).st p421 rfl).st p425 rfl).st p430 rfl).st p434 rfl), (andT hb401 s435)⟩
   rintro a436 ⟨pg437, s438⟩
   refine s1 pg437.z (okAs s438) rfl fun a439 p440 s441 => ?_
   refine rN (thenN ?_)
   obtain rfl := Option.some.inj h
   exact wp_ret (ret1 p440.z Try.results7 (rvT s441) ⟨_, rfl, rfl, cx283.g⟩)
  ·rw [ho99] at po16
   obtain ⟨oby100, hpy100_0, rfl, rfl, q442, q443⟩ := po16
   replace h := (omS ho99).symm.trans h
   have D444 : Sep [[oby23], ownB hpy23_0, [oby100], ownB hpy100_0] L := D17
   have lt445 : ∀ b ∈ (oby23 :: (ownB hpy23_0 ++ (oby100 :: (ownB hpy100_0 ++ L)))), b < w7.heap.size := lt18
   have hs446 : ∀ i ∈ ([] : List Nat), i ∈ [] ∨ w.heap.size ≤ i := memN
   have hs447 : ∀ i ∈ ([] : List Nat), i ∈ L := memN
   have t448 : Tr L w (oby23 :: (ownB hpy23_0 ++ (oby100 :: (ownB hpy100_0 ++ L)))) w7 := G.tC g19 hs447 (memC (.inr (f20 _ (List.mem_append_left _ (.head _)))) (memA (fun x hx => .inr ((fun _ h => f20 _ (List.mem_append_right _ (List.mem_append_left _ h))) x hx)) (memC (.inr (f21 _ (List.mem_append_left _ (.head _)))) (memA (fun x hx => .inr ((fun _ h => f21 _ (List.mem_append_right _ (List.mem_append_left _ h))) x hx)) (fun i h => .inl h)))))
   have cx449 := c0.gs g19 hs446 lt445
   have q450 : OwnS (KInt .i64) 2 (oby23 :: (ownB hpy23_0 ++ (oby100 :: (ownB hpy100_0 ++ L)))) w7 hpy23_0 y23.l := q98
   have q451 : OwnS KTPark 59 (oby23 :: (ownB hpy23_0 ++ (oby100 :: (ownB hpy100_0 ++ L)))) w7 hpy100_0 y100.l := q443
   refine s1 p8.z (okMv sp8) rfl fun a452 p453 s454 => ?_
   refine s1 p453.z (okExt (vs := [_, _]) s454 rfl) rfl fun a455 p456 s457 => ?_
   have s458 := p456.o s454 rfl
   refine s1 p456.z (okExt (vs := [_, _]) s458 rfl) rfl fun a459 p460 s461 => ?_
   have s462 := p460.o s457 rfl
   refine s1 p460.z (okAs s462) rfl fun a463 p464 s465 => ?_
   have s466 := p464.o s461 rfl
   refine s1 p464.z (okAs s466) rfl fun a467 p468 s469 => ?_
   refine rN (thenN ?_)
   refine wp_seq ?_
   refine wp_seq ?_
   refine reg ?_
   have s470 := p468.o s465 rfl
   refine s1 p468.z (okMv s470) rfl fun a471 p472 s473 => ?_
   refine s1 p472.z (okPEq Try.underlying24 s473 cst) rfl fun a474 p475 s476 => ?_
   refine rN (thenN ?_)
   refine wp_cond_false s476 ?_
   refine wp_skip (thenN ?_)
   refine wp_seq ?_
   refine reg ?_
   refine s1 p475.z (okBd (pb2 cst cst) (bd40_0_4 1 5 _)) rfl fun a477 p478 s479 => ?_
   refine s1 p478.z (okBd (pb1 cst) (bd40_0 22 _)) rfl fun a480 p481 s482 => ?_
   have s483 := p481.o s479 rfl
   refine lS (oBS (K := KTIns) (L := (oby23 :: (ownB hpy23_0 ++ (oby100 :: (ownB hpy100_0 ++ L))))) (xs := [(⟨1, 0, 0, 0, 5⟩ : TIns), (⟨22, 0, 0, 0, 0⟩ : TIns)]) (C := [TIns.C (⟨1, 0, 0, 0, 5⟩ : TIns), TIns.C (⟨22, 0, 0, 0, 0⟩ : TIns)]) p481.z (pb2 s483 s482) (bs22_2_0_1 (⟨1, 0, 0, 0, 5⟩ : TIns) (⟨22, 0, 0, 0, 0⟩ : TIns)) rfl rfl (all2C rfl (all2C rfl all2N)) rfl rfl fun a484 v485 w486 p487 sp487 q488 g489 f490 => ?_)
   have f491 := frN f490
   have nb492 := nbA hL cx449.g.sz (fun _ h => nilO h) f491
   have sf493 := sfA (S := []) cx449.g.sz (fun _ h => nilO h) f491
   have n494 := q97.no (fun h => nilO h) f491
   have n495 := q442.no (fun h => nilO h) f491
   have n496 := q450.dj (fun _ _ h => nilO h) f491
   have n497 := q451.dj (fun _ _ h => nilO h) f491
   have cx498 := cx449.ap g489 (fun _ h => nilO h) q488
   refine s1 p487.z (okAs sp487) rfl fun a499 p500 s501 => ?_
   refine rN (thenN ?_)
   refine wp_seq ?_
   refine reg ?_
   refine s1 p500.z (okMv s501) rfl fun a502 p503 s504 => ?_
   have s505 := p503.o (p500.o (p487.o (p481.o (p478.o (p475.o (p472.o s470 rfl) rfl) rfl) rfl) rfl) rfl) rfl
   refine s1 p503.z (okMv s505) rfl fun a506 p507 s508 => ?_
   have s509 := p507.o (p503.o (p500.o (p487.o (p481.o (p478.o (p475.o (p472.o s469 rfl) rfl) rfl) rfl) rfl) rfl) rfl) rfl
   refine s1 p507.z (okMv s509) rfl fun a510 p511 s512 => ?_
   obtain ⟨t513, ht514, h⟩ := Option.bind_eq_some_iff.1 h
   refine lS (oCall p511.z Try.call12 (ag2 cst cst) (c12 (ownB v485 ++ (oby23 :: (ownB hpy23_0 ++ (oby100 :: (ownB hpy100_0 ++ L))))) w486 cx498.lt _ _ _ RdS.nil _ ht514) rfl fun v518 a515 w516 hp519 p517 sp517 => ?_)
   obtain ⟨q520, g521⟩ := hp519
   have cx522 := cx498.ca g521
   have s523 := p517.o (p511.o (p507.o s504 rfl) rfl) rfl
   have s524 := p517.o (p511.o s508 rfl) rfl
   have s525 := p517.o s512 rfl
   have q526 := q488.t0 g521.t0 g521
   have q527 : RdS KTIns (oby23 :: (ownB hpy23_0 ++ (oby100 :: (ownB hpy100_0 ++ L)))) w516 v485 [(⟨1, 0, 0, 0, 5⟩ : TIns), (⟨22, 0, 0, 0, 0⟩ : TIns)] := q526.rd (fun i h => (List.mem_append_right _ h)) (fun b hb => (not_cons (fun e => n494 (e ▸ hb)) (not_app ((djs n496) _ hb) (not_cons (fun e => n495 (e ▸ hb)) (not_app ((djs n497) _ hb) (nb492 _ hb))))))
   have cx528 := cx522.sub (fun i h => (List.mem_append_right _ h))
   have m529 := ((q97.g0 g489).g0 g521).g0 (G.refl [] w516)
   have q530 := ((q450.t0 (tAp g489 (fun _ h => nilO h) f491) g489).t0 g521.t0 g521).t0 ((Tr.refl (ownB v485 ++ (oby23 :: (ownB hpy23_0 ++ (oby100 :: (ownB hpy100_0 ++ L))))) w516).sub (fun i h => (List.mem_append_right _ h))) (G.refl [] w516)
   have m531 := ((q442.g0 g489).g0 g521).g0 (G.refl [] w516)
   have q532 := ((q451.t0 (tAp g489 (fun _ h => nilO h) f491) g489).t0 g521.t0 g521).t0 ((Tr.refl (ownB v485 ++ (oby23 :: (ownB hpy23_0 ++ (oby100 :: (ownB hpy100_0 ++ L))))) w516).sub (fun i h => (List.mem_append_right _ h))) (G.refl [] w516)
   have q533 := q520.mono ((Tr.refl (ownB v485 ++ (oby23 :: (ownB hpy23_0 ++ (oby100 :: (ownB hpy100_0 ++ L))))) w516).sub (fun i h => (List.mem_append_right _ h)))
   obtain ⟨t534, ht535, h⟩ := Option.bind_eq_some_iff.1 h
   refine lS (oCall p517.z Try.call10 (ag5 s523 s524 s525 cst sp517) (c10 k L w516 [(⟨1, 0, 0, 0, 5⟩ : TIns), (⟨22, 0, 0, 0, 0⟩ : TIns)] v485 y23 oby23 hpy23_0 y100 oby100 hpy100_0 0 t513 v518 cx528.lt (sepC (show ∀ x ∈ [oby23], x ∉ (ownB hpy23_0 ++ (oby100 :: (ownB hpy100_0 ++ L))) from (in1 (na (D444.bo (i := 0) (j := 1) rfl rfl rfl) (nc (D444.bb (i := 0) (j := 2) rfl rfl rfl) (na (D444.bo (i := 0) (j := 3) rfl rfl rfl) (fun h => Nat.lt_irrefl _ (Nat.lt_of_lt_of_le (hL _ h) (Nat.le_trans c0.g.sz (f20 _ (List.mem_append_left _ (.head _))))))))))) (sepC (show ∀ x ∈ ownB hpy23_0, x ∉ (oby100 :: (ownB hpy100_0 ++ L)) from (fun x hx => (nc (nbo (D444.ob (i := 1) (j := 2) rfl rfl rfl) hx) (na ((D444.dj (i := 1) (j := 3) rfl rfl rfl) x hx) ((fun x hx hl => D444.dl (i := 1) rfl x hx hl) x hx))))) (sepC (show ∀ x ∈ [oby100], x ∉ (ownB hpy100_0 ++ L) from (in1 (na (D444.bo (i := 2) (j := 3) rfl rfl rfl) (fun h => Nat.lt_irrefl _ (Nat.lt_of_lt_of_le (hL _ h) (Nat.le_trans c0.g.sz (f21 _ (List.mem_append_left _ (.head _))))))))) (sepC (show ∀ x ∈ ownB hpy100_0, x ∉ L from (fun x hx => ((fun x hx hl => D444.dl (i := 3) rfl x hx hl) x hx))) sepN)))) q527 m529 q530 m531 q532 q533 _ ht535) rfl fun v539 a536 w537 hp540 p538 sp538 => ?_)
   obtain ⟨h541, h542, h543, h544, h545, rfl, q546, q547, q548, m549, q550, m551, q552, D553, f556, f557, lt554, g555⟩ := hp540
   have hs558 : ∀ i ∈ (oby23 :: (ownB hpy23_0 ++ (oby100 :: (ownB hpy100_0 ++ [])))), i ∈ [] ∨ w.heap.size ≤ i := (memC (.inr (Nat.le_trans c0.g.sz (f20 _ (List.mem_append_left _ (.head _))))) (memA (fun x hx => .inr (Nat.le_trans c0.g.sz ((fun _ h => f20 _ (List.mem_append_right _ (List.mem_append_left _ h))) x hx))) (memC (.inr (Nat.le_trans c0.g.sz (f21 _ (List.mem_append_left _ (.head _))))) (memA (fun x hx => .inr (Nat.le_trans c0.g.sz ((fun _ h => f21 _ (List.mem_append_right _ (List.mem_append_left _ h))) x hx))) memN))))
   have hs559 : ∀ i ∈ (oby23 :: (ownB hpy23_0 ++ (oby100 :: (ownB hpy100_0 ++ [])))), i ∈ (oby23 :: (ownB hpy23_0 ++ (oby100 :: (ownB hpy100_0 ++ L)))) := (memC (.head _) (memA (fun _ h => (.tail _ (List.mem_append_left _ h))) (memC (.tail _ (List.mem_append_right _ (.head _))) (memA (fun _ h => (.tail _ (List.mem_append_right _ (.tail _ (List.mem_append_left _ h))))) memN))))
   have t560 : Tr (oby23 :: (ownB hpy23_0 ++ (oby100 :: (ownB hpy100_0 ++ L)))) w516 (oby23 :: (ownB h544 ++ (oby100 :: (ownB h545 ++ L)))) w537 := G.tC g555 hs559 (memC (.inl (.head _)) (memA (frL f556 hs559) (memC (.inl (.tail _ (List.mem_append_right _ (.head _)))) (memA (frL f557 hs559) (fun i h => .inl ((.tail _ (List.mem_append_right _ (.tail _ (List.mem_append_right _ h))))))))))
   have cx561 := cx528.gs g555 hs558 lt554
   refine s1 p538.z (okMv sp538) rfl fun a562 p563 s564 => ?_
   refine s1 p563.z (okExt (vs := [_, _, _, _, _]) s564 rfl) rfl fun a565 p566 s567 => ?_
   have s568 := p566.o s564 rfl
   refine s1 p566.z (okExt (vs := [_, _, _, _, _]) s568 rfl) rfl fun a569 p570 s571 => ?_
   have s572 := p570.o s568 rfl
   refine s1 p570.z (okExt (vs := [_, _, _, _, _]) s572 rfl) rfl fun a573 p574 s575 => ?_
   have s576 := p574.o s572 rfl
   refine s1 p574.z (okExt (vs := [_, _, _, _, _]) s576 rfl) rfl fun a577 p578 s579 => ?_
   have s580 := p578.o s576 rfl
   refine s1 p578.z (okExt (vs := [_, _, _, _, _]) s580 rfl) rfl fun a581 p582 s583 => ?_
   have s584 := p582.o (p578.o (p574.o (p570.o s567 rfl) rfl) rfl) rfl
   refine s1 p582.z (okAs s584) rfl fun a585 p586 s587 => ?_
   have s588 := p586.o (p582.o (p578.o (p574.o s571 rfl) rfl) rfl) rfl
   refine s1 p586.z (okAs s588) rfl fun a589 p590 s591 => ?_
   have s592 := p590.o (p586.o (p582.o (p578.o s575 rfl) rfl) rfl) rfl
   refine s1 p590.z (okAs s592) rfl fun a593 p594 s595 => ?_
   have s596 := p594.o (p590.o (p586.o (p582.o s579 rfl) rfl) rfl) rfl
   refine s1 p594.z (okAs s596) rfl fun a597 p598 s599 => ?_
   have s600 := p598.o (p594.o (p590.o (p586.o s583 rfl) rfl) rfl) rfl
   refine s1 p598.z (okAs s600) rfl fun a601 p602 s603 => ?_
   refine rN (thenN ?_)
   refine wp_seq ?_
   refine reg ?_
   have s604 := p602.o (p598.o (p594.o (p590.o (p586.o (p582.o (p578.o (p574.o (p570.o (p566.o (p563.o (p538.o (p517.o (p511.o (p507.o (p503.o s501 rfl) rfl) rfl) rfl) rfl) rfl) rfl) rfl) rfl) rfl) rfl) rfl) rfl) rfl) rfl) rfl
   refine s1 p602.z (okMv s604) rfl fun a605 p606 s607 => ?_
   have s608 := p606.o (p602.o (p598.o (p594.o (p590.o (p586.o (p582.o (p578.o (p574.o (p570.o (p566.o (p563.o (p538.o (p517.o (p511.o s509 rfl) rfl) rfl) rfl) rfl) rfl) rfl) rfl) rfl) rfl) rfl) rfl) rfl) rfl) rfl
   refine s1 p606.z (okMv s608) rfl fun a609 p610 s611 => ?_
   obtain ⟨t612, ht613, h⟩ := Option.bind_eq_some_iff.1 h
   refine lS (oCall p610.z Try.call12 (ag2 cst cst) (c12 (oby23 :: (ownB h544 ++ (oby100 :: (ownB h545 ++ L)))) w537 cx561.lt _ _ _ RdS.nil _ ht613) rfl fun v617 a614 w615 hp618 p616 sp616 => ?_)
   obtain ⟨q619, g620⟩ := hp618
   have cx621 := cx561.ca g620
   have s622 := p616.o (p610.o s607 rfl) rfl
   have s623 := p616.o s611 rfl
   have q624 := q527.mono (t560.trans g620.t0)
   have m625 := m551.g0 g620
   have q626 := q552.t0 g620.t0 g620
   have m627 := m549.g0 g620
   obtain ⟨t628, ht629, h⟩ := Option.bind_eq_some_iff.1 h
   refine lS (oCall p616.z Try.call10 (ag5 s622 cst s623 cst sp616) (c10_n1 (oby23 :: (ownB h544 ++ L)) w615 [(⟨1, 0, 0, 0, 5⟩ : TIns), (⟨22, 0, 0, 0, 0⟩ : TIns)] v485 t534.2.2.2.2.2.2 oby100 h545 0 t612 v617 (fun i h => cx621.lt i ((List.mem_cons.1 h).elim (fun e => e ▸ (.tail _ (List.mem_append_right _ (.head _)))) (fun h => (List.mem_append.1 h).elim (fun h => (.tail _ (List.mem_append_right _ (.tail _ (List.mem_append_left _ h))))) (fun h => (List.mem_cons.1 h).elim (fun e => e ▸ (.head _)) (fun h => (List.mem_append.1 h).elim (fun h => (.tail _ (List.mem_append_left _ h))) (fun h => (.tail _ (List.mem_append_right _ (.tail _ (List.mem_append_right _ h)))))))))) (sepC (show ∀ x ∈ [oby100], x ∉ (ownB h545 ++ (oby23 :: (ownB h544 ++ L))) from (in1 (na (D553.bo (i := 2) (j := 3) rfl rfl rfl) (nc (D444.bb (i := 0) (j := 2) rfl rfl rfl).symm (na (D553.ob (i := 1) (j := 2) rfl rfl rfl) (fun h => Nat.lt_irrefl _ (Nat.lt_of_lt_of_le (hL _ h) (Nat.le_trans c0.g.sz (f21 _ (List.mem_append_left _ (.head _))))))))))) (sepC (show ∀ x ∈ ownB h545, x ∉ (oby23 :: (ownB h544 ++ L)) from (fun x hx => (nc (nbo (D553.bo (i := 0) (j := 3) rfl rfl rfl) hx) (na ((djs (D553.dj (i := 1) (j := 3) rfl rfl rfl)) x hx) ((fun x hx hl => D553.dl (i := 3) rfl x hx hl) x hx))))) sepN)) (q624.mono ((Tr.refl _ _).sub (fun i h => (List.mem_cons.1 h).elim (fun e => e ▸ (.tail _ (List.mem_append_right _ (.head _)))) (fun h => (List.mem_append.1 h).elim (fun h => (.tail _ (List.mem_append_right _ (.tail _ (List.mem_append_left _ h))))) (fun h => (List.mem_cons.1 h).elim (fun e => e ▸ (.head _)) (fun h => (List.mem_append.1 h).elim (fun h => (.tail _ (List.mem_append_left _ h))) (fun h => (.tail _ (List.mem_append_right _ (.tail _ (List.mem_append_right _ h))))))))))) m625 (q626.sub (fun i h => (List.mem_cons.1 h).elim (fun e => e ▸ (.tail _ (List.mem_append_right _ (.head _)))) (fun h => (List.mem_append.1 h).elim (fun h => (.tail _ (List.mem_append_right _ (.tail _ (List.mem_append_left _ h))))) (fun h => (List.mem_cons.1 h).elim (fun e => e ▸ (.head _)) (fun h => (List.mem_append.1 h).elim (fun h => (.tail _ (List.mem_append_left _ h))) (fun h => (.tail _ (List.mem_append_right _ (.tail _ (List.mem_append_right _ h)))))))))) (q619.mono ((Tr.refl _ _).sub (fun i h => (List.mem_cons.1 h).elim (fun e => e ▸ (.tail _ (List.mem_append_right _ (.head _)))) (fun h => (List.mem_append.1 h).elim (fun h => (.tail _ (List.mem_append_right _ (.tail _ (List.mem_append_left _ h))))) (fun h => (List.mem_cons.1 h).elim (fun e => e ▸ (.head _)) (fun h => (List.mem_append.1 h).elim (fun h => (.tail _ (List.mem_append_left _ h))) (fun h => (.tail _ (List.mem_append_right _ (.tail _ (List.mem_append_right _ h))))))))))) _ ht629) rfl fun v633 a630 w631 hp634 p632 sp632 => ?_)
   obtain ⟨h635, h636, h637, rfl, q638, q639, q640, g643⟩ := hp634
   have cx644 := cx621.ca g643
   have q645 := q638.mono ((Tr.refl _ _).sub (fun i h => (List.mem_cons.1 h).elim (fun e => e ▸ (.tail _ (List.mem_append_right _ (.head _)))) (fun h => (List.mem_append.1 h).elim (fun h => (.tail _ (List.mem_append_right _ (.tail _ (List.mem_append_left _ h))))) (fun h => (List.mem_cons.1 h).elim (fun e => e ▸ (.head _)) (fun h => (List.mem_append.1 h).elim (fun h => (.tail _ (List.mem_append_left _ h))) (fun h => (.tail _ (List.mem_append_right _ (.tail _ (List.mem_append_right _ h))))))))))
   have q646 := q639.mono ((Tr.refl _ _).sub (fun i h => (List.mem_cons.1 h).elim (fun e => e ▸ (.tail _ (List.mem_append_right _ (.head _)))) (fun h => (List.mem_append.1 h).elim (fun h => (.tail _ (List.mem_append_right _ (.tail _ (List.mem_append_left _ h))))) (fun h => (List.mem_cons.1 h).elim (fun e => e ▸ (.head _)) (fun h => (List.mem_append.1 h).elim (fun h => (.tail _ (List.mem_append_left _ h))) (fun h => (.tail _ (List.mem_append_right _ (.tail _ (List.mem_append_right _ h))))))))))
   have q647 := q640.mono ((Tr.refl _ _).sub (fun i h => (List.mem_cons.1 h).elim (fun e => e ▸ (.tail _ (List.mem_append_right _ (.head _)))) (fun h => (List.mem_append.1 h).elim (fun h => (.tail _ (List.mem_append_right _ (.tail _ (List.mem_append_left _ h))))) (fun h => (List.mem_cons.1 h).elim (fun e => e ▸ (.head _)) (fun h => (List.mem_append.1 h).elim (fun h => (.tail _ (List.mem_append_left _ h))) (fun h => (.tail _ (List.mem_append_right _ (.tail _ (List.mem_append_right _ h))))))))))
   refine s1 p632.z (okMv sp632) rfl fun a648 p649 s650 => ?_
   refine s1 p649.z (okExt (vs := [_, _, _, _, _]) s650 rfl) rfl fun a651 p652 s653 => ?_
   have s654 := p652.o s650 rfl
   refine s1 p652.z (okExt (vs := [_, _, _, _, _]) s654 rfl) rfl fun a655 p656 s657 => ?_
   have s658 := p656.o s654 rfl
   refine s1 p656.z (okExt (vs := [_, _, _, _, _]) s658 rfl) rfl fun a659 p660 s661 => ?_
   have s662 := p660.o s658 rfl
   refine s1 p660.z (okExt (vs := [_, _, _, _, _]) s662 rfl) rfl fun a663 p664 s665 => ?_
   have s666 := p664.o s662 rfl
   refine s1 p664.z (okExt (vs := [_, _, _, _, _]) s666 rfl) rfl fun a667 p668 s669 => ?_
   have s670 := p668.o (p664.o (p660.o (p656.o s653 rfl) rfl) rfl) rfl
   refine s1 p668.z (okAs s670) rfl fun a671 p672 s673 => ?_
   have s674 := p672.o (p668.o (p664.o (p660.o s657 rfl) rfl) rfl) rfl
   refine s1 p672.z (okAs s674) rfl fun a675 p676 s677 => ?_
   have s678 := p676.o (p672.o (p668.o (p664.o s661 rfl) rfl) rfl) rfl
   refine s1 p676.z (okAs s678) rfl fun a679 p680 s681 => ?_
   have s682 := p680.o (p676.o (p672.o (p668.o s665 rfl) rfl) rfl) rfl
   refine s1 p680.z (okAs s682) rfl fun a683 p684 s685 => ?_
   have s686 := p684.o (p680.o (p676.o (p672.o s669 rfl) rfl) rfl) rfl
   refine s1 p684.z (okAs s686) rfl fun a687 p688 s689 => ?_
   refine rN (thenN ?_)
   refine wp_seq ?_
   refine reg ?_
   have s690 := p688.o (p684.o (p680.o (p676.o (p672.o (p668.o (p664.o (p660.o (p656.o (p652.o (p649.o (p632.o (p616.o (p610.o (p606.o s603 rfl) rfl) rfl) rfl) rfl) rfl) rfl) rfl) rfl) rfl) rfl) rfl) rfl) rfl) rfl
   refine s1 p688.z (okMv s690) rfl fun a691 p692 s693 => ?_
   have q694 := q548.mono (g620.t0.trans g643.t0)
   refine s1 p692.z (okEEqN ef33 s693 q694 _) rfl fun a695 p696 s697 => ?_
   refine s1 p696.z (okMv s697) rfl fun a698 p699 s700 => ?_
   refine cutP 3 (fun a' => Pg Try.f7.ntmps [47, 48, 49] a698 a' ∧ a'.eval (.tmp 49) = .bool (((t534.2.2.2.2.1).isN) && (t534.2.2.1 == 2))) ?_ ?_
   ·rcases bf ((t534.2.2.2.2.1).isN) with hb701 | hb701
    ·have s702 := bv s700 hb701
     refine s1k p699.z rfl (yd p699.z rfl rfl s702) rfl fun a703 p704 s705 => ?_
     have s706 := p704.o s702 rfl
     refine s1k p704.z rfl (yd p704.z rfl rfl s706) rfl fun a707 p708 s709 => ?_
     have s710 := p708.o s706 rfl
     refine s1 p708.z (okPickF s710 cst) rfl fun a711 p712 s713 => ?_
     exact rN ⟨rfl, rfl, ((((Pg.refl p699.z).st p704 rfl).st p708 rfl).st p712 rfl), (andF hb701 s713)⟩
    ·have s714 := bv s700 hb701
     have s715 := p699.o (p696.o (p692.o (p688.o (p684.o (p680.o (p676.o (p672.o (p668.o (p664.o (p660.o (p656.o (p652.o (p649.o (p632.o (p616.o (p610.o (p606.o (p602.o (p598.o s595 rfl) rfl) rfl) rfl) rfl) rfl) rfl) rfl) rfl) rfl) rfl) rfl) rfl) rfl) rfl) rfl) rfl) rfl) rfl) rfl
     refine s1g p699.z (okMv s715) rfl (yd p699.z rfl rfl s714) fun a716 p717 s718 => ?_
     have s719 := p717.o s714 rfl
     refine s1g p717.z (okEq s718 cst) rfl (yd p717.z rfl rfl s719) fun a720 p721 s722 => ?_
     have s723 := p721.o s719 rfl
     refine s1 p721.z (okPickT s723 s722) rfl fun a724 p725 s726 => ?_
     exact rN ⟨rfl, rfl, ((((Pg.refl p699.z).st p717 rfl).st p721 rfl).st p725 rfl), (andT hb701 s726)⟩
   rintro a727 ⟨pg728, s729⟩
   refine s1 pg728.z (okMv s729) rfl fun a730 p731 s732 => ?_
   refine cutP 3 (fun a' => Pg Try.f7.ntmps [51, 52, 53] a730 a' ∧ a'.eval (.tmp 53) = .bool ((((t534.2.2.2.2.1).isN) && (t534.2.2.1 == 2)) && (t534.2.2.2.1 == 5))) ?_ ?_
   ·rcases bf (((t534.2.2.2.2.1).isN) && (t534.2.2.1 == 2)) with hb733 | hb733
    ·have s734 := bv s732 hb733
     refine s1k p731.z rfl (yd p731.z rfl rfl s734) rfl fun a735 p736 s737 => ?_
     have s738 := p736.o s734 rfl
     refine s1k p736.z rfl (yd p736.z rfl rfl s738) rfl fun a739 p740 s741 => ?_
     have s742 := p740.o s738 rfl
     refine s1 p740.z (okPickF s742 cst) rfl fun a743 p744 s745 => ?_
     exact rN ⟨rfl, rfl, ((((Pg.refl p731.z).st p736 rfl).st p740 rfl).st p744 rfl), (andF hb733 s745)⟩
    ·have s746 := bv s732 hb733
     have s747 := p731.o (pg728.o (p699.o (p696.o (p692.o (p688.o (p684.o (p680.o (p676.o (p672.o (p668.o (p664.o (p660.o (p656.o (p652.o (p649.o (p632.o (p616.o (p610.o (p606.o (p602.o s599 rfl) rfl) rfl) rfl) rfl) rfl) rfl) rfl) rfl) rfl) rfl) rfl) rfl) rfl) rfl) rfl) rfl) rfl) rfl) rfl) rfl
     refine s1g p731.z (okMv s747) rfl (yd p731.z rfl rfl s746) fun a748 p749 s750 => ?_
     have s751 := p749.o s746 rfl
     refine s1g p749.z (okEq s750 cst) rfl (yd p749.z rfl rfl s751) fun a752 p753 s754 => ?_
     have s755 := p753.o s751 rfl
     refine s1 p753.z (okPickT s755 s754) rfl fun a756 p757 s758 => ?_
     exact rN ⟨rfl, rfl, ((((Pg.refl p731.z).st p749 rfl).st p753 rfl).st p757 rfl), (andT hb733 s758)⟩
   rintro a759 ⟨pg760, s761⟩
   refine s1 pg760.z (okMv s761) rfl fun a762 p763 s764 => ?_
   refine cutP 4 (fun a' => Pg Try.f7.ntmps [55, 56, 57, 58] a762 a' ∧ a'.eval (.tmp 58) = .bool (((((t534.2.2.2.2.1).isN) && (t534.2.2.1 == 2)) && (t534.2.2.2.1 == 5)) && (decide (t628.2.2.2.2 = .code 1)))) ?_ ?_
   ·rcases bf ((((t534.2.2.2.2.1).isN) && (t534.2.2.1 == 2)) && (t534.2.2.2.1 == 5)) with hb765 | hb765
    ·have s766 := bv s764 hb765
     refine s1k p763.z rfl (yd p763.z rfl rfl s766) rfl fun a767 p768 s769 => ?_
     have s770 := p768.o s766 rfl
     refine s1k p768.z rfl (yd p768.z rfl rfl s770) rfl fun a771 p772 s773 => ?_
     have s774 := p772.o s770 rfl
     refine s1k p772.z rfl (yd p772.z rfl rfl s774) rfl fun a775 p776 s777 => ?_
     have s778 := p776.o s774 rfl
     refine s1 p776.z (okPickF s778 cst) rfl fun a779 p780 s781 => ?_
     exact rN ⟨rfl, rfl, (((((Pg.refl p763.z).st p768 rfl).st p772 rfl).st p776 rfl).st p780 rfl), (andF hb765 s781)⟩
    ·have s782 := bv s764 hb765
     have s783 := p763.o (pg760.o (p731.o (pg728.o (p699.o (p696.o (p692.o s689 rfl) rfl) rfl) rfl) rfl) rfl) rfl
     refine s1g p763.z (okMv s783) rfl (yd p763.z rfl rfl s782) fun a784 p785 s786 => ?_
     have s787 := p785.o s782 rfl
     refine s1g p785.z (okMkI Try.underlying36 cst _) rfl (yd p785.z rfl rfl s787) fun a788 p789 s790 => ?_
     have s791 := p789.o s787 rfl
     have s792 := p789.o s786 rfl
     refine s1g p789.z (okEEqC ef33 s792 q647 s790 _) rfl (yd p789.z rfl rfl s791) fun a793 p794 s795 => ?_
     have s796 := p794.o s791 rfl
     refine s1 p794.z (okPickT s796 s795) rfl fun a797 p798 s799 => ?_
     exact rN ⟨rfl, rfl, (((((Pg.refl p763.z).st p785 rfl).st p789 rfl).st p794 rfl).st p798 rfl), (andT hb765 s799)⟩
   rintro a800 ⟨pg801, s802⟩
   refine s1 pg801.z (okAs s802) rfl fun a803 p804 s805 => ?_
   refine rN (thenN ?_)
   obtain rfl := Option.some.inj h
   exact wp_ret (ret1 p804.z Try.results7 (rvT s805) ⟨_, rfl, rfl, cx644.g⟩)

set_option maxHeartbeats 4000000 in
set_option maxRecDepth 100000 in
theorem c9 (L : List Nat) (w : World) (hL : ∀ b ∈ L, b < w.heap.size) (x0 : Int) (x1 : Int) (r : Int) (h : tholelaw09_pick x0 x1 = some r) : Calls Try.prog 9 #[.int .i64 x0, .int .i64 x1] w (fun e w' => ∃ v, e = .returned v ∧ v = .int .i64 r ∧ G [] w w') := by
 refine enterF Try.func9 rfl rfl fun a0 z0 A => ?_
 have s0_0 := A 0 (.int .i64 x0) rfl
 have s0_1 := A 1 (.int .i64 x1) rfl
 clear A
 have c0 : Cx [] w L w := ⟨G.refl _ _, hL⟩
 unfold tholelaw09_pick at h
 refine wp_seq ?_
 refine reg ?_
 refine s1 z0 (okAs cst) rfl fun a1 p2 s3 => ?_
 refine rN (thenN ?_)
 refine wp_seq ?_
 refine wp_seq ?_
 refine reg ?_
 have s4 := p2.o s0_0 rfl
 refine s1 p2.z (okMv s4) rfl fun a5 p6 s7 => ?_
 refine s1 p6.z (okLt s7 cst) rfl fun a8 p9 s10 => ?_
 refine rN (thenN ?_)
 have s11 := p9.o (p6.o s4 rfl) rfl
 have s12 := p9.o (p6.o s3 rfl) rfl
 have pg13 : Pg _ [4, 5, 6] _ _ := ((((Pg.refl z0).st p2 rfl).st p6 rfl).st p9 rfl)
 refine cnd s10 (fun hb14 => ?_) (fun hb14 => ?_)
 ·replace h := (ifP hb14).symm.trans h
  refine reg ?_
  refine s1 pg13.z (okMv s11) rfl fun a15 p16 s17 => ?_
  refine s1 p16.z (okAdd s17 cst) rfl fun a18 p19 s20 => ?_
  refine s1 p19.z (okNeg s20) rfl fun a21 p22 s23 => ?_
  refine s1 p22.z (okAs s23) rfl fun a24 p25 s26 => ?_
  refine rN (thenN ?_)
  refine wp_seq ?_
  refine reg ?_
  refine s1 p25.z (okMv s26) rfl fun a27 p28 s29 => ?_
  have s30 := p28.o (p25.o (p22.o (p19.o (p16.o (pg13.o s0_1 rfl) rfl) rfl) rfl) rfl) rfl
  refine s1 p28.z (okMv s30) rfl fun a31 p32 s33 => ?_
  have s34 := p32.o s29 rfl
  by_cases hi35 : x1 ≠ 0
  case neg => rw [if_neg hi35] at h; cases h
  replace h := (if_pos hi35).symm.trans h
  refine s1 p32.z (okRem s34 s33 hi35) rfl fun a36 p37 s38 => ?_
  refine s1 p37.z (okAs s38) rfl fun a39 p40 s41 => ?_
  refine rN (thenN ?_)
  obtain rfl := Option.some.inj h
  exact wp_ret (ret1 p40.z Try.results9 (rvT s41) ⟨_, rfl, rfl, c0.g⟩)
 replace h := (ifN hb14).symm.trans h
 refine wp_skip (thenN ?_)
 refine wp_seq ?_
 refine reg ?_
 refine s1 pg13.z (okMv s11) rfl fun a42 p43 s44 => ?_
 have s45 := p43.o (pg13.o s0_1 rfl) rfl
 refine s1 p43.z (okMv s45) rfl fun a46 p47 s48 => ?_
 have s49 := p47.o s44 rfl
 by_cases hi50 : x1 ≠ 0
 case neg => rw [if_neg hi50] at h; cases h
 replace h := (if_pos hi50).symm.trans h
 refine s1 p47.z (okRem s49 s48 hi50) rfl fun a51 p52 s53 => ?_
 refine s1 p52.z (okAs s53) rfl fun a54 p55 s56 => ?_
 refine rN (thenN ?_)
 obtain rfl := Option.some.inj h
 exact wp_ret (ret1 p55.z Try.results9 (rvT s56) ⟨_, rfl, rfl, c0.g⟩)
end Go.Proofs.Ytjdalhedpgiimaa
