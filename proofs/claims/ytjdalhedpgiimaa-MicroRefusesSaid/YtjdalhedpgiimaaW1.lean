/-
  The Go functions cell_New, permit_New, cell_Arena_Len, cell_Arena_Alloc, cell_Arena_there, cell_Arena_Store, tholelaw09_made, micro_Start, micro_Step_n2, micro_Step_n1_n2, permit_Table_has, permit_Table_At, slices_Clone_Frame, ins_shapes, ins_May_1, ins_May, ins_Access, cell_Arena_Load, cell_Arena_Swap, micro_machine_access, micro_jumps: each comes to its plain function. Conditions: where the plain function is some.
-/
import Derived.Test.YtjdalhedpgiimaaK
set_option linter.unusedVariables false
namespace Go.Proofs.Ytjdalhedpgiimaa
open Go Go.RowKit Go.Proofs.Ytjdalhedpgiimaa.Gx
set_option maxHeartbeats 4000000 in
set_option maxRecDepth 100000 in
theorem c18 (L : List Nat) (w : World) (x0 : Int) (hL : ∀ b ∈ L, b < w.heap.size) (D : Sep [] L) (r : (Option Tcell_Arena) × Er) (h : cell_New x0 = some r) : Calls Try.prog 18 #[.int .i64 x0] w (fun e w' => ∃ v, e = .returned v ∧ ∃ u1_0 u0 I0, v = .tuple #[u0, u1_0] ∧ ErG 36 0 (flat (I0 ++ []) L) w' u1_0 r.2 ∧ POTcell_Arena u0 I0 (flat (I0 ++ []) L) w' r.1 ∧ Sep (I0 ++ []) L ∧ (∀ x ∈ flat I0 [], w.heap.size ≤ x) ∧ (∀ b ∈ (flat (I0 ++ []) L), b < w'.heap.size) ∧ G ([] : List Nat) w w') := by
 refine enterF Try.func18 rfl rfl fun a0 z0 A => ?_
 have s0_0 := A 0 (.int .i64 x0) rfl
 clear A
 have hLb : ∀ b ∈ L, b < w.heap.size := fun b h => hL b h
 have c0 : Cx ([] : List Nat) w L w := ⟨G.refl _ _, hL⟩
 unfold cell_New at h
 refine wp_seq ?_
 refine reg ?_
 refine s1 z0 (okAs cst) rfl fun a1 p2 s3 => ?_
 refine s1 p2.z (okAs cst) rfl fun a4 p5 s6 => ?_
 refine rN (thenN ?_)
 refine wp_seq ?_
 refine wp_seq ?_
 refine reg ?_
 have s7 := p5.o (p2.o s0_0 rfl) rfl
 refine s1 p5.z (okMv s7) rfl fun a8 p9 s10 => ?_
 refine s1 p9.z (okLt s10 cst) rfl fun a11 p12 s13 => ?_
 refine s1 p12.z (okMv s13) rfl fun a14 p15 s16 => ?_
 refine cutP 3 (fun a' => Pg Try.f18.ntmps [7, 8, 9] a14 a' ∧ a'.eval (.tmp 9) = .bool ((decide (x0 < 1)) || (decide (4096 < x0)))) ?_ ?_
 ·rcases bf (decide (x0 < 1)) with hb17 | hb17
  ·have s18 := bv s16 hb17
   have s19 := p15.o (p12.o (p9.o s7 rfl) rfl) rfl
   refine s1g p15.z (okMv s19) rfl (yd p15.z rfl rfl s18) fun a20 p21 s22 => ?_
   have s23 := p21.o s18 rfl
   refine s1g p21.z (okGt s22 cst) rfl (yd p21.z rfl rfl s23) fun a24 p25 s26 => ?_
   have s27 := p25.o s23 rfl
   refine s1 p25.z (okPickF s27 s26) rfl fun a28 p29 s30 => ?_
   exact rN ⟨rfl, rfl, ((((Pg.refl p15.z).st p21 rfl).st p25 rfl).st p29 rfl), (orF hb17 s30)⟩
  ·have s31 := bv s16 hb17
   refine s1k p15.z rfl (yd p15.z rfl rfl s31) rfl fun a32 p33 s34 => ?_
   have s35 := p33.o s31 rfl
   refine s1k p33.z rfl (yd p33.z rfl rfl s35) rfl fun a36 p37 s38 => ?_
   have s39 := p37.o s35 rfl
   refine s1 p37.z (okPickT s39 cst) rfl fun a40 p41 s42 => ?_
   exact rN ⟨rfl, rfl, ((((Pg.refl p15.z).st p33 rfl).st p37 rfl).st p41 rfl), (orT hb17 s42)⟩
 rintro a43 ⟨pg44, s45⟩
 refine rN (thenN ?_)
 have s46 := pg44.o (p15.o (p12.o (p9.o s7 rfl) rfl) rfl) rfl
 have s47 := pg44.o (p15.o (p12.o (p9.o (p5.o s3 rfl) rfl) rfl) rfl) rfl
 have s48 := pg44.o (p15.o (p12.o (p9.o s6 rfl) rfl) rfl) rfl
 have pg49 : Pg _ [2, 3, 4, 5, 6, 7, 8, 9] _ _ := (((((((Pg.refl z0).st p2 rfl).st p5 rfl).st p9 rfl).st p12 rfl).st p15 rfl).tr pg44 rfl)
 refine cnd s45 (fun hb50 => ?_) (fun hb50 => ?_)
 ·replace h := (ifP hb50).symm.trans h
  refine wp_seq ?_
  refine reg ?_
  refine s1 pg49.z (okMkI Try.underlying36 cst _) rfl fun a51 p52 s53 => ?_
  refine s1 p52.z (okAs cst) rfl fun a54 p55 s56 => ?_
  have s57 := p55.o s53 rfl
  refine s1 p55.z (okAs s57) rfl fun a58 p59 s60 => ?_
  refine rN (thenN ?_)
  have s61 := p59.o s56 rfl
  obtain rfl := Option.some.inj h
  exact wp_ret (thenR (ret2 p59.z Try.results18 (rvT s61) (rvT s60) ⟨_, rfl, (.iface 36 (.int .i64 1)), (.pointer none), [], rfl, ErG.code, ⟨rfl, rfl⟩, sepN, memN, (show ∀ b ∈ L, b < w.heap.size from c0.lt), c0.g⟩))
 replace h := (ifN hb50).symm.trans h
 refine wp_skip (thenN ?_)
 refine wp_seq ?_
 refine reg ?_
 refine lS (oBS (K := (KInt .i64)) (L := L) (xs := [0]) (C := [[.int .i64 0]]) pg49.z (pb1 cst) (bs28_1_0 0) rfl rfl (all2C rfl all2N) rfl rfl fun a62 v63 w64 p65 sp65 q66 g67 f68 => ?_)
 have f69 := frN f68
 have nb70 := nbA hLb c0.g.sz (fun _ h => nilO h) f69
 have sf71 := sfA (S := ([] : List Nat)) c0.g.sz (fun _ h => nilO h) f69
 have cx72 := c0.ap g67 (fun _ h => nilO h) q66
 have s73 := p65.o s46 rfl
 refine s1 p65.z (okMv s73) rfl fun a74 p75 s76 => ?_
 have s77 := p75.o sp65 rfl
 refine s1 p75.z (okBd (v := .agg (Tcell_Arena.C (⟨[0], x0⟩ : Tcell_Arena) v63).toArray) (pb2 s77 s76) (by obtain ⟨_, _, e78, _⟩ := q66.val; rw [e78]; exact bd72_0_1 _ _ _ x0 _)) rfl fun a79 p80 s81 => ?_
 refine lS (oBox (l := Tcell_Arena.C (⟨[0], x0⟩ : Tcell_Arena) v63) p80.z s81 rfl rfl fun a82 w83 b84 p85 sp85 m86 g87 e88 => ?_)
 have f90 := cx72.nw e88
 have cx89 := cx72.al g87 m86
 refine s1 p85.z (okAs sp85) rfl fun a91 p92 s93 => ?_
 refine s1 p92.z (okAs cst) rfl fun a94 p95 s96 => ?_
 refine rN (thenN ?_)
 have s97 := p95.o s93 rfl
 obtain rfl := Option.some.inj h
 have q98 := q66.t0 (g87.tA (Nat.le_of_eq e88.symm)) g87
 exact wp_ret (ret2 p95.z Try.results18 (rvT s97) (rvT s96) ⟨_, rfl, .nilIface, (ptr b84 0), [[b84], ownB v63], rfl, ErG.nil, ⟨b84, v63, rfl, rfl, m86, q98⟩, (sepC (show ∀ x ∈ [b84], x ∉ (ownB v63 ++ L) from (in1 (na (q66.nb e88) (fun h => Nat.lt_irrefl _ (Nat.lt_of_lt_of_le (hLb _ h) f90))))) (sepC (show ∀ x ∈ ownB v63, x ∉ L from (fun x hx => (nb70 x hx))) sepN)), (show ∀ x ∈ (b84 :: (ownB v63 ++ ([] : List Nat))), w.heap.size ≤ x from (memC f90 (memA (frO sf71) memN))), (show ∀ b ∈ (b84 :: (ownB v63 ++ L)), b < w83.heap.size from cx89.lt), cx89.g⟩)

set_option maxHeartbeats 4000000 in
set_option maxRecDepth 100000 in
theorem c19 (L : List Nat) (w : World) (x0 : Int) (hL : ∀ b ∈ L, b < w.heap.size) (D : Sep [] L) (r : (Option Tpermit_Table) × Er) (h : permit_New x0 = some r) : Calls Try.prog 19 #[.int .i64 x0] w (fun e w' => ∃ v, e = .returned v ∧ ∃ u1_0 u0 I0, v = .tuple #[u0, u1_0] ∧ ErG 36 0 (flat (I0 ++ []) L) w' u1_0 r.2 ∧ POTpermit_Table u0 I0 (flat (I0 ++ []) L) w' r.1 ∧ Sep (I0 ++ []) L ∧ (∀ x ∈ flat I0 [], w.heap.size ≤ x) ∧ (∀ b ∈ (flat (I0 ++ []) L), b < w'.heap.size) ∧ G ([] : List Nat) w w') := by
 refine enterF Try.func19 rfl rfl fun a0 z0 A => ?_
 have s0_0 := A 0 (.int .i64 x0) rfl
 clear A
 have hLb : ∀ b ∈ L, b < w.heap.size := fun b h => hL b h
 have c0 : Cx ([] : List Nat) w L w := ⟨G.refl _ _, hL⟩
 unfold permit_New at h
 refine wp_seq ?_
 refine reg ?_
 refine s1 z0 (okAs cst) rfl fun a1 p2 s3 => ?_
 refine s1 p2.z (okAs cst) rfl fun a4 p5 s6 => ?_
 refine rN (thenN ?_)
 refine wp_seq ?_
 refine wp_seq ?_
 refine reg ?_
 have s7 := p5.o (p2.o s0_0 rfl) rfl
 refine s1 p5.z (okMv s7) rfl fun a8 p9 s10 => ?_
 refine s1 p9.z (okLt s10 cst) rfl fun a11 p12 s13 => ?_
 refine s1 p12.z (okMv s13) rfl fun a14 p15 s16 => ?_
 refine cutP 3 (fun a' => Pg Try.f19.ntmps [7, 8, 9] a14 a' ∧ a'.eval (.tmp 9) = .bool ((decide (x0 < 1)) || (decide (8 < x0)))) ?_ ?_
 ·rcases bf (decide (x0 < 1)) with hb17 | hb17
  ·have s18 := bv s16 hb17
   have s19 := p15.o (p12.o (p9.o s7 rfl) rfl) rfl
   refine s1g p15.z (okMv s19) rfl (yd p15.z rfl rfl s18) fun a20 p21 s22 => ?_
   have s23 := p21.o s18 rfl
   refine s1g p21.z (okGt s22 cst) rfl (yd p21.z rfl rfl s23) fun a24 p25 s26 => ?_
   have s27 := p25.o s23 rfl
   refine s1 p25.z (okPickF s27 s26) rfl fun a28 p29 s30 => ?_
   exact rN ⟨rfl, rfl, ((((Pg.refl p15.z).st p21 rfl).st p25 rfl).st p29 rfl), (orF hb17 s30)⟩
  ·have s31 := bv s16 hb17
   refine s1k p15.z rfl (yd p15.z rfl rfl s31) rfl fun a32 p33 s34 => ?_
   have s35 := p33.o s31 rfl
   refine s1k p33.z rfl (yd p33.z rfl rfl s35) rfl fun a36 p37 s38 => ?_
   have s39 := p37.o s35 rfl
   refine s1 p37.z (okPickT s39 cst) rfl fun a40 p41 s42 => ?_
   exact rN ⟨rfl, rfl, ((((Pg.refl p15.z).st p33 rfl).st p37 rfl).st p41 rfl), (orT hb17 s42)⟩
 rintro a43 ⟨pg44, s45⟩
 refine rN (thenN ?_)
 have s46 := pg44.o (p15.o (p12.o (p9.o s7 rfl) rfl) rfl) rfl
 have s47 := pg44.o (p15.o (p12.o (p9.o (p5.o s3 rfl) rfl) rfl) rfl) rfl
 have s48 := pg44.o (p15.o (p12.o (p9.o s6 rfl) rfl) rfl) rfl
 have pg49 : Pg _ [2, 3, 4, 5, 6, 7, 8, 9] _ _ := (((((((Pg.refl z0).st p2 rfl).st p5 rfl).st p9 rfl).st p12 rfl).st p15 rfl).tr pg44 rfl)
 refine cnd s45 (fun hb50 => ?_) (fun hb50 => ?_)
 ·replace h := (ifP hb50).symm.trans h
  refine wp_seq ?_
  refine reg ?_
  refine s1 pg49.z (okMkI Try.underlying36 cst _) rfl fun a51 p52 s53 => ?_
  refine s1 p52.z (okAs cst) rfl fun a54 p55 s56 => ?_
  have s57 := p55.o s53 rfl
  refine s1 p55.z (okAs s57) rfl fun a58 p59 s60 => ?_
  refine rN (thenN ?_)
  have s61 := p59.o s56 rfl
  obtain rfl := Option.some.inj h
  exact wp_ret (thenR (ret2 p59.z Try.results19 (rvT s61) (rvT s60) ⟨_, rfl, (.iface 36 (.int .i64 1)), (.pointer none), [], rfl, ErG.code, ⟨rfl, rfl⟩, sepN, memN, (show ∀ b ∈ L, b < w.heap.size from c0.lt), c0.g⟩))
 replace h := (ifN hb50).symm.trans h
 refine wp_skip (thenN ?_)
 refine wp_seq ?_
 refine reg ?_
 refine s1 pg49.z (okMv s46) rfl fun a62 p63 s64 => ?_
 obtain ⟨z65, hz66, h⟩ := Option.bind_eq_some_iff.1 h
 refine lS (oMk (K := KTPark) (L := L) (x0 := (⟨false, false, false, 0⟩ : TPark)) Try.underlying75 ti59 rfl zv59 (fun _ => rfl) p63.z s64 s64 hz66 rfl fun a67 v68 w69 p70 sp70 q71 g72 f73 => ?_)
 have f74 := frN f73
 have nb75 := nbA hLb c0.g.sz (fun _ h => nilO h) f74
 have sf76 := sfA (S := ([] : List Nat)) c0.g.sz (fun _ h => nilO h) f74
 have cx77 := c0.ap g72 (fun _ h => nilO h) q71
 refine s1 p70.z (okBd (v := .agg (Tpermit_Table.C (⟨z65, 0⟩ : Tpermit_Table) v68).toArray) (pb1 sp70) (by obtain ⟨_, _, e78, _⟩ := q71.val; rw [e78]; exact bd78_0 _ _ _ _)) rfl fun a79 p80 s81 => ?_
 refine lS (oBox (l := Tpermit_Table.C (⟨z65, 0⟩ : Tpermit_Table) v68) p80.z s81 rfl rfl fun a82 w83 b84 p85 sp85 m86 g87 e88 => ?_)
 have f90 := cx77.nw e88
 have cx89 := cx77.al g87 m86
 refine s1 p85.z (okAs sp85) rfl fun a91 p92 s93 => ?_
 refine s1 p92.z (okAs cst) rfl fun a94 p95 s96 => ?_
 refine rN (thenN ?_)
 have s97 := p95.o s93 rfl
 obtain rfl := Option.some.inj h
 have q98 := q71.t0 (g87.tA (Nat.le_of_eq e88.symm)) g87
 exact wp_ret (ret2 p95.z Try.results19 (rvT s97) (rvT s96) ⟨_, rfl, .nilIface, (ptr b84 0), [[b84], ownB v68], rfl, ErG.nil, ⟨b84, v68, rfl, rfl, m86, q98⟩, (sepC (show ∀ x ∈ [b84], x ∉ (ownB v68 ++ L) from (in1 (na (q71.nb e88) (fun h => Nat.lt_irrefl _ (Nat.lt_of_lt_of_le (hLb _ h) f90))))) (sepC (show ∀ x ∈ ownB v68, x ∉ L from (fun x hx => (nb75 x hx))) sepN)), (show ∀ x ∈ (b84 :: (ownB v68 ++ ([] : List Nat))), w.heap.size ≤ x from (memC f90 (memA (frO sf76) memN))), (show ∀ b ∈ (b84 :: (ownB v68 ++ L)), b < w83.heap.size from cx89.lt), cx89.g⟩)

set_option maxHeartbeats 4000000 in
set_option maxRecDepth 100000 in
theorem c11 (L : List Nat) (w : World) (x0 : Tcell_Arena) (ob0 : Nat) (hp0_0 : Value) (hL : ∀ b ∈ (ob0 :: (ownB hp0_0 ++ L)), b < w.heap.size) (D : Sep [[ob0], ownB hp0_0] L) (mob0 : Bk w ob0 (Tcell_Arena.C x0 hp0_0) 72) (qhp0_0 : OwnS (KInt .i64) 2 (ob0 :: (ownB hp0_0 ++ L)) w hp0_0 x0.l) (r : Int) (h : cell_Arena_Len x0 = some r) : Calls Try.prog 11 #[ptr ob0 0] w (fun e w' => ∃ v, e = .returned v ∧ v = .int .i64 r ∧ G ([] : List Nat) w w') := by
 refine enterF Try.func11 rfl rfl fun a0 z0 A => ?_
 have s0_0 := A 0 (ptr ob0 0) rfl
 clear A
 have hLb : ∀ b ∈ L, b < w.heap.size := fun b h => hL b (.tail _ (List.mem_append_right _ h))
 have c0 : Cx ([] : List Nat) w (ob0 :: (ownB hp0_0 ++ L)) w := ⟨G.refl _ _, hL⟩
 unfold cell_Arena_Len at h
 refine wp_seq ?_
 refine reg ?_
 refine s1 z0 (okAs cst) rfl fun a1 p2 s3 => ?_
 refine rN (thenN ?_)
 refine wp_seq ?_
 refine reg ?_
 have s4 := p2.o s0_0 rfl
 refine s1 p2.z (okMv s4) rfl fun a5 p6 s7 => ?_
 refine s1 p6.z (okNil s7) rfl fun a8 p9 s10 => ?_
 refine s1 p9.z (okFA (o' := 0) fo72_0 s10 rfl) rfl fun a11 p12 s13 => ?_
 refine s1 p12.z (okLd (j := 0) na28 s13 (mob0.cl) rfl rfl) rfl fun a14 p15 s16 => ?_
 refine s1 p15.z (okLenO (E2 := 2) Try.underlying28 s16 qhp0_0) rfl fun a17 p18 s19 => ?_
 refine s1 p18.z (okSub s19 cst) rfl fun a20 p21 s22 => ?_
 refine s1 p21.z (okAs s22) rfl fun a23 p24 s25 => ?_
 refine rN (thenN ?_)
 obtain rfl := Option.some.inj h
 exact wp_ret (ret1 p24.z Try.results11 (rvT s25) ⟨_, rfl, rfl, c0.g⟩)

set_option maxHeartbeats 4000000 in
set_option maxRecDepth 100000 in
theorem c20 (L : List Nat) (w : World) (x0 : Tcell_Arena) (ob0 : Nat) (hp0_0 : Value) (x1 : Int) (hL : ∀ b ∈ (ob0 :: (ownB hp0_0 ++ L)), b < w.heap.size) (D : Sep [[ob0], ownB hp0_0] L) (mob0 : Bk w ob0 (Tcell_Arena.C x0 hp0_0) 72) (qhp0_0 : OwnS (KInt .i64) 2 (ob0 :: (ownB hp0_0 ++ L)) w hp0_0 x0.l) (r : Int × Er × Tcell_Arena) (h : cell_Arena_Alloc x0 x1 = some r) : Calls Try.prog 20 #[ptr ob0 0, .int .i64 x1] w (fun e w' => ∃ v, e = .returned v ∧ ∃ u1_0 nhp0_0, v = .tuple #[.int .i64 r.1, u1_0] ∧ ErG 36 0 (ob0 :: (ownB nhp0_0 ++ L)) w' u1_0 r.2.1 ∧ Bk w' ob0 (Tcell_Arena.C r.2.2 nhp0_0) 72 ∧ OwnS (KInt .i64) 2 (ob0 :: (ownB nhp0_0 ++ L)) w' nhp0_0 r.2.2.l ∧ Sep [[ob0], ownB nhp0_0] L ∧ (∀ x ∈ ownB nhp0_0, x ∈ (ob0 :: (ownB hp0_0 ++ [])) ∨ w.heap.size ≤ x) ∧ (∀ b ∈ (ob0 :: (ownB nhp0_0 ++ L)), b < w'.heap.size) ∧ G (ob0 :: (ownB hp0_0 ++ [])) w w') := by
 refine enterF Try.func20 rfl rfl fun a0 z0 A => ?_
 have s0_0 := A 0 (ptr ob0 0) rfl
 have s0_1 := A 1 (.int .i64 x1) rfl
 clear A
 have hLb : ∀ b ∈ L, b < w.heap.size := fun b h => hL b (.tail _ (List.mem_append_right _ h))
 have c0 : Cx (ob0 :: (ownB hp0_0 ++ [])) w (ob0 :: (ownB hp0_0 ++ L)) w := ⟨G.refl _ _, hL⟩
 unfold cell_Arena_Alloc at h
 refine wp_seq ?_
 refine reg ?_
 refine s1 z0 (okAs cst) rfl fun a1 p2 s3 => ?_
 refine s1 p2.z (okAs cst) rfl fun a4 p5 s6 => ?_
 refine rN (thenN ?_)
 refine wp_seq ?_
 refine wp_block ?_
 refine wp_seq ?_
 refine reg ?_
 have s7 := p5.o (p2.o s0_1 rfl) rfl
 refine s1 p5.z (okMv s7) rfl fun a8 p9 s10 => ?_
 refine s1 p9.z (okLt s10 cst) rfl fun a11 p12 s13 => ?_
 refine s1 p12.z (okAs s13) rfl fun a14 p15 s16 => ?_
 refine rN (thenN ?_)
 have s17 := p15.o (p12.o (p9.o s7 rfl) rfl) rfl
 have s18 := p15.o (p12.o (p9.o (p5.o s3 rfl) rfl) rfl) rfl
 have s19 := p15.o (p12.o (p9.o s6 rfl) rfl) rfl
 have pg20 : Pg _ [4, 5, 7, 8, 9] _ _ := ((((((Pg.refl z0).st p2 rfl).st p5 rfl).st p9 rfl).st p12 rfl).st p15 rfl)
 refine cnd s16 (fun hb21 => ?_) (fun hb21 => ?_)
 ·replace h := (ifP hb21).symm.trans h
  refine wp_seq ?_
  refine reg ?_
  refine s1 pg20.z (okMkI Try.underlying36 cst _) rfl fun a22 p23 s24 => ?_
  refine s1 p23.z (okAs cst) rfl fun a25 p26 s27 => ?_
  have s28 := p26.o s24 rfl
  refine s1 p26.z (okAs s28) rfl fun a29 p30 s31 => ?_
  refine rN (thenN ?_)
  have s32 := p30.o s27 rfl
  obtain rfl := Option.some.inj h
  exact wp_ret (blkR (thenR (ret2 p30.z Try.results20 (rvT s32) (rvT s31) ⟨_, rfl, (.iface 36 (.int .i64 1)), hp0_0, rfl, ErG.code, mob0, qhp0_0, (sepC (show ∀ x ∈ [ob0], x ∉ (ownB hp0_0 ++ L) from (in1 (na (D.bo (i := 0) (j := 1) rfl rfl rfl) (D.bl (i := 0) rfl)))) (sepC (show ∀ x ∈ ownB hp0_0, x ∉ L from (fun x hx => ((D.dl (i := 1) rfl) x hx))) sepN)), (fun _ h => .inl (.tail _ (List.mem_append_left _ h))), (show ∀ b ∈ (ob0 :: (ownB hp0_0 ++ L)), b < w.heap.size from c0.lt), c0.g⟩)))
 replace h := (ifN hb21).symm.trans h
 refine wp_seq ?_
 obtain ⟨t53, ht54, h⟩ := Option.bind_eq_some_iff.1 h
 have s75 := pg20.o s0_0 rfl
 refine regJ (fun a' w' => Z Try.f20.ntmps a' ∧ a'.eval (.tmp 0) = ptr ob0 0 ∧ a'.eval (.tmp 1) = .int .i64 x1 ∧ a'.eval (.tmp 4) = .int .i64 0 ∧ a'.eval (.tmp 5) = .nilIface ∧ a'.eval (.tmp 11) = .bool (decide (w64 (x0.most - t53) < x1)) ∧ Bk w' ob0 (Tcell_Arena.C x0 hp0_0) 72 ∧ OwnS (KInt .i64) 2 (ob0 :: (ownB hp0_0 ++ L)) w' hp0_0 x0.l ∧ Cx (ob0 :: (ownB hp0_0 ++ [])) w (ob0 :: (ownB hp0_0 ++ L)) w' ∧ Tr (ob0 :: (ownB hp0_0 ++ L)) w (ob0 :: (ownB hp0_0 ++ L)) w') ?_ ?_
 ·refine regH (n := 10) [(4, fun w' => Cl w' ob0 1 [.int .i64 x0.most])] mixed rfl ?_
  have g76 := G.drew w
  have cx77 := c0.ca g76
  refine hTakeW (i := 0) rfl (by kernel_rfl) (by kernel_rfl) (by kernel_rfl) nrm (cond := fun _ => True) (.inl fun _ => trivial) pg20.z (wN rfl) (fun _ _ => okMv s17) trivial rfl fun a78 p79 sp79 => ?_
  have s80 := p79.o s75 rfl
  refine hTakeW (i := 1) rfl (by kernel_rfl) (by kernel_rfl) (by kernel_rfl) nrm (cond := fun _ => True) (.inl fun _ => trivial) p79.z (wN rfl) (fun _ _ => okMv s80) trivial rfl fun a81 p82 sp82 => ?_
  refine hTakeW (i := 2) rfl (by kernel_rfl) (by kernel_rfl) (by kernel_rfl) nrm (cond := fun _ => True) (.inl fun _ => trivial) p82.z (wN rfl) (fun _ _ => okNil sp82) trivial rfl fun a83 p84 sp84 => ?_
  refine hTakeW (i := 3) rfl (by kernel_rfl) (by kernel_rfl) (by kernel_rfl) nrm (cond := fun _ => True) (.inl fun _ => trivial) p84.z (wN rfl) (fun _ _ => okFA (o' := 1) fo72_1 sp84 rfl) trivial rfl fun a85 p86 sp86 => ?_
  have m87 := mob0.g0 g76
  refine hTakeW (i := 4) rfl (by kernel_rfl) (by kernel_rfl) (by kernel_rfl) nrm (.inr (.head _)) p86.z (wN rfl) (fun _ h => okLd (j := 0) na3 sp86 h rfl rfl) (m87.clp rfl) rfl fun a88 p89 sp89 => ?_
  have s90 := p89.o (p86.o (p84.o (p82.o s80 rfl) rfl) rfl) rfl
  refine hTakeW (i := 5) rfl (by kernel_rfl) (by kernel_rfl) (by kernel_rfl) nrm (cond := fun _ => True) (.inl fun _ => trivial) p89.z (wN rfl) (fun _ _ => okMv s90) trivial rfl fun a91 p92 sp92 => ?_
  have q93 := qhp0_0.t0 g76.t0 g76
  refine hOne (i := 6) (by kernel_rfl) rfl (oCall p92.z Try.call11 (ag1 sp92) (c11 L w.drew x0 ob0 hp0_0 cx77.lt (sepC (show ∀ x ∈ [ob0], x ∉ (ownB hp0_0 ++ L) from (in1 (na (D.bo (i := 0) (j := 1) rfl rfl rfl) (D.bl (i := 0) rfl)))) (sepC (show ∀ x ∈ ownB hp0_0, x ∉ L from (fun x hx => ((D.dl (i := 1) rfl) x hx))) sepN)) m87 q93 _ ht54) rfl fun v97 a94 w95 hp98 p96 sp96 => ?_)
  obtain ⟨rfl, g101⟩ := hp98
  have cx102 := cx77.ca g101
  refine ⟨⟨.inr fun h => h.g0 g101, trivial⟩, ?_⟩
  have s103 := p96.o (p92.o sp89 rfl) rfl
  refine hTakeW (i := 7) rfl (by kernel_rfl) (by kernel_rfl) (by kernel_rfl) nrm (cond := fun _ => True) (.inl fun _ => trivial) p96.z (wN rfl) (fun _ _ => okSub s103 sp96) trivial rfl fun a104 p105 sp105 => ?_
  have s106 := p105.o (p96.o (p92.o (p89.o (p86.o (p84.o (p82.o sp79 rfl) rfl) rfl) rfl) rfl) rfl) rfl
  refine hTakeW (i := 8) rfl (by kernel_rfl) (by kernel_rfl) (by kernel_rfl) nrm (cond := fun _ => True) (.inl fun _ => trivial) p105.z (wN rfl) (fun _ _ => okGt s106 sp105) trivial rfl fun a107 p108 sp108 => ?_
  refine hTakeW (i := 9) rfl (by kernel_rfl) (by kernel_rfl) (by kernel_rfl) nrm (cond := fun _ => True) (.inl fun _ => trivial) p108.z (wN rfl) (fun _ _ => okAs sp108) trivial rfl fun a109 p110 sp110 => ?_
  have q111 := q93.t0 g101.t0 g101
  have s112 := p110.o (p108.o (p105.o (p96.o (p92.o s90 rfl) rfl) rfl) rfl) rfl
  have s113 := p110.o (p108.o (p105.o (p96.o (p92.o (p89.o (p86.o (p84.o (p82.o (p79.o s17 rfl) rfl) rfl) rfl) rfl) rfl) rfl) rfl) rfl) rfl
  have s114 := p110.o (p108.o (p105.o (p96.o (p92.o (p89.o (p86.o (p84.o (p82.o (p79.o s18 rfl) rfl) rfl) rfl) rfl) rfl) rfl) rfl) rfl) rfl
  have s115 := p110.o (p108.o (p105.o (p96.o (p92.o (p89.o (p86.o (p84.o (p82.o (p79.o s19 rfl) rfl) rfl) rfl) rfl) rfl) rfl) rfl) rfl) rfl
  have m116 := m87.g0 g101
  exact hDone (by kernel_rfl) ⟨rfl, p110.z, s112, s113, s114, s115, sp110, m116, q111, cx102, (g76.t0.trans g101.t0)⟩
 rintro a117 w118 ⟨z119, s120, s121, s122, s123, s124, m125, q126, cx127, t128⟩
 refine thenN ?_
 refine cnd s124 (fun hb129 => ?_) (fun hb129 => ?_)
 ·replace h := (ifP hb129).symm.trans h
  refine wp_seq ?_
  refine reg ?_
  refine s1 z119 (okMkI Try.underlying36 cst _) rfl fun a130 p131 s132 => ?_
  refine s1 p131.z (okAs cst) rfl fun a133 p134 s135 => ?_
  have s136 := p134.o s132 rfl
  refine s1 p134.z (okAs s136) rfl fun a137 p138 s139 => ?_
  refine rN (thenN ?_)
  have s140 := p138.o s135 rfl
  obtain rfl := Option.some.inj h
  exact wp_ret (blkR (thenR (ret2 p138.z Try.results20 (rvT s140) (rvT s139) ⟨_, rfl, (.iface 36 (.int .i64 3)), hp0_0, rfl, ErG.code, m125, q126, (sepC (show ∀ x ∈ [ob0], x ∉ (ownB hp0_0 ++ L) from (in1 (na (D.bo (i := 0) (j := 1) rfl rfl rfl) (D.bl (i := 0) rfl)))) (sepC (show ∀ x ∈ ownB hp0_0, x ∉ L from (fun x hx => ((D.dl (i := 1) rfl) x hx))) sepN)), (fun _ h => .inl (.tail _ (List.mem_append_left _ h))), (show ∀ b ∈ (ob0 :: (ownB hp0_0 ++ L)), b < w118.heap.size from cx127.lt), cx127.g⟩)))
 replace h := (ifN hb129).symm.trans h
 refine wp_skip (blkN (thenN ?_))
 refine wp_seq ?_
 refine reg ?_
 refine s1 z119 (okMv s120) rfl fun a141 p142 s143 => ?_
 refine s1 p142.z (okNil s143) rfl fun a144 p145 s146 => ?_
 refine s1 p145.z (okFA (o' := 0) fo72_0 s146 rfl) rfl fun a147 p148 s149 => ?_
 refine s1 p148.z (okLd (j := 0) na28 s149 (m125.cl) rfl rfl) rfl fun a150 p151 s152 => ?_
 refine s1 p151.z (okLenO (E2 := 2) Try.underlying28 s152 q126) rfl fun a153 p154 s155 => ?_
 refine s1 p154.z (okAs s155) rfl fun a156 p157 s158 => ?_
 refine rN (thenN ?_)
 refine wp_seq ?_
 refine reg ?_
 have s159 := p157.o (p154.o (p151.o (p148.o (p145.o (p142.o s120 rfl) rfl) rfl) rfl) rfl) rfl
 refine s1 p157.z (okMv s159) rfl fun a160 p161 s162 => ?_
 have s163 := p161.o s159 rfl
 refine s1 p161.z (okMv s163) rfl fun a164 p165 s166 => ?_
 refine s1 p165.z (okNil s166) rfl fun a167 p168 s169 => ?_
 refine s1 p168.z (okFA (o' := 0) fo72_0 s169 rfl) rfl fun a170 p171 s172 => ?_
 refine s1 p171.z (okLd (j := 0) na28 s172 (m125.cl) rfl rfl) rfl fun a173 p174 s175 => ?_
 have s176 := p174.o (p171.o (p168.o (p165.o (p161.o (p157.o (p154.o (p151.o (p148.o (p145.o (p142.o s121 rfl) rfl) rfl) rfl) rfl) rfl) rfl) rfl) rfl) rfl) rfl
 refine s1 p174.z (okMv s176) rfl fun a177 p178 s179 => ?_
 have s180 := p178.o s175 rfl
 obtain ⟨z181, hz182, h⟩ := Option.bind_eq_some_iff.1 h
 refine lS (oAppZ (K := (KInt .i64)) (L := (ob0 :: (ownB hp0_0 ++ L))) (x0 := 0) Try.underlying28 Try.underlying3 ti2 rfl zv2 (fun _ _ => rfl) p178.z s180 s179 q126 hz182 (fun _ h => (.tail _ (List.mem_append_left _ h))) rfl fun a183 v184 w185 p186 sp186 q187 g188 f189 => ?_)
 have nb190 := nbA hLb cx127.g.sz (D.dl (i := 1) rfl) f189
 have sf191 := sfA (S := (ob0 :: (ownB hp0_0 ++ []))) cx127.g.sz (fun _ h => .inl (.tail _ (List.mem_append_left _ h))) f189
 have n192 := m125.no (D.bo (i := 0) (j := 1) rfl rfl rfl) f189
 have cx193 := cx127.ap g188 (fun _ h => .inl (.tail _ (List.mem_append_left _ h))) q187
 have cx194 := cx193.sub (fun i h => (List.mem_append.1 h).elim (fun h => (List.mem_append_left _ h)) (fun h => (List.mem_cons.1 h).elim (fun e => e ▸ (List.mem_append_right _ (.head _))) (fun h => (List.mem_append_right _ (.tail _ (List.mem_append_right _ h))))))
 have q195 := q187.sub (fun i h => (List.mem_append.1 h).elim (fun h => (List.mem_append_left _ h)) (fun h => (List.mem_cons.1 h).elim (fun e => e ▸ (List.mem_append_right _ (.head _))) (fun h => (List.mem_append_right _ (.tail _ (List.mem_append_right _ h))))))
 have s196 := p186.o (p178.o (p174.o (p171.o (p168.o (p165.o s162 rfl) rfl) rfl) rfl) rfl) rfl
 refine s1 p186.z (okNil s196) rfl fun a197 p198 s199 => ?_
 refine s1 p198.z (okFA (o' := 0) fo72_0 s199 rfl) rfl fun a200 p201 s202 => ?_
 have s203 := p201.o (p198.o sp186 rfl) rfl
 have m204 := m125.g g188 (D.bo (i := 0) (j := 1) rfl rfl rfl)
 refine lS (oSto (cs := [v184]) (l' := Tcell_Arena.C ({ x0 with l := z181 }) v184) p201.z s202 s203 m204 Try.sizeOf28 q195.cells (oneS q195.one) rfl rfl fun w205 m206 g207 => ?_)
 have cx208 := cx194.sS g207 (.head _)
 refine rN (thenN ?_)
 refine wp_seq ?_
 refine reg ?_
 have s209 := p201.o (p198.o (p186.o (p178.o (p174.o (p171.o (p168.o (p165.o (p161.o s158 rfl) rfl) rfl) rfl) rfl) rfl) rfl) rfl) rfl
 refine s1 p201.z (okMv s209) rfl fun a210 p211 s212 => ?_
 refine s1 p211.z (okAs s212) rfl fun a213 p214 s215 => ?_
 refine s1 p214.z (okAs cst) rfl fun a216 p217 s218 => ?_
 refine rN (thenN ?_)
 have s219 := p217.o s215 rfl
 obtain rfl := Option.some.inj h
 have q220 := q195.t1 (g207.t1 (List.mem_append_right _ (.head _))) g207 n192
 exact wp_ret (ret2 p217.z Try.results20 (rvT s219) (rvT s218) ⟨_, rfl, .nilIface, v184, rfl, ErG.nil, m206, (q220.sub (fun i h => (List.mem_cons.1 h).elim (fun e => e ▸ (List.mem_append_right _ (.head _))) (fun h => (List.mem_append.1 h).elim (fun h => (List.mem_append_left _ h)) (fun h => (List.mem_append_right _ (.tail _ h)))))), (sepC (show ∀ x ∈ [ob0], x ∉ (ownB v184 ++ L) from (in1 (na n192 (D.bl (i := 0) rfl)))) (sepC (show ∀ x ∈ ownB v184, x ∉ L from (fun x hx => (nb190 x hx))) sepN)), sf191, (show ∀ b ∈ (ob0 :: (ownB v184 ++ L)), b < w205.heap.size from (fun i h => cx208.lt i ((List.mem_cons.1 h).elim (fun e => e ▸ (List.mem_append_right _ (.head _))) (fun h => (List.mem_append.1 h).elim (fun h => (List.mem_append_left _ h)) (fun h => (List.mem_append_right _ (.tail _ h))))))), cx208.g⟩)

set_option maxHeartbeats 4000000 in
set_option maxRecDepth 100000 in
theorem c27 (L : List Nat) (w : World) (x0 : Tcell_Arena) (ob0 : Nat) (hp0_0 : Value) (x1 : Int) (hL : ∀ b ∈ (ob0 :: (ownB hp0_0 ++ L)), b < w.heap.size) (D : Sep [[ob0], ownB hp0_0] L) (mob0 : Bk w ob0 (Tcell_Arena.C x0 hp0_0) 72) (qhp0_0 : OwnS (KInt .i64) 2 (ob0 :: (ownB hp0_0 ++ L)) w hp0_0 x0.l) (r : Bool) (h : cell_Arena_there x0 x1 = some r) : Calls Try.prog 27 #[ptr ob0 0, .int .i64 x1] w (fun e w' => ∃ v, e = .returned v ∧ v = .bool r ∧ G ([] : List Nat) w w') := by
 refine enterF Try.func27 rfl rfl fun a0 z0 A => ?_
 have s0_0 := A 0 (ptr ob0 0) rfl
 have s0_1 := A 1 (.int .i64 x1) rfl
 clear A
 have hLb : ∀ b ∈ L, b < w.heap.size := fun b h => hL b (.tail _ (List.mem_append_right _ h))
 have c0 : Cx ([] : List Nat) w (ob0 :: (ownB hp0_0 ++ L)) w := ⟨G.refl _ _, hL⟩
 unfold cell_Arena_there at h
 refine wp_seq ?_
 refine reg ?_
 refine s1 z0 (okAs cst) rfl fun a1 p2 s3 => ?_
 refine rN (thenN ?_)
 refine wp_seq ?_
 refine reg ?_
 have s4 := p2.o s0_1 rfl
 refine s1 p2.z (okMv s4) rfl fun a5 p6 s7 => ?_
 refine s1 p6.z (okGe s7 cst) rfl fun a8 p9 s10 => ?_
 refine s1 p9.z (okMv s10) rfl fun a11 p12 s13 => ?_
 refine cutP 8 (fun a' => Pg Try.f27.ntmps [8, 9, 10, 11, 12, 13, 14, 15] a11 a' ∧ a'.eval (.tmp 15) = .bool ((decide (1 ≤ x1)) && (decide (x1 < (x0.l.length : Int))))) ?_ ?_
 ·rcases bf (decide (1 ≤ x1)) with hb14 | hb14
  ·have s15 := bv s13 hb14
   refine s1k p12.z rfl (yd p12.z rfl rfl s15) rfl fun a16 p17 s18 => ?_
   have s19 := p17.o s15 rfl
   refine s1k p17.z rfl (yd p17.z rfl rfl s19) rfl fun a20 p21 s22 => ?_
   have s23 := p21.o s19 rfl
   refine s1k p21.z rfl (yd p21.z rfl rfl s23) rfl fun a24 p25 s26 => ?_
   have s27 := p25.o s23 rfl
   refine s1k p25.z rfl (yd p25.z rfl rfl s27) rfl fun a28 p29 s30 => ?_
   have s31 := p29.o s27 rfl
   refine s1k p29.z rfl (yd p29.z rfl rfl s31) rfl fun a32 p33 s34 => ?_
   have s35 := p33.o s31 rfl
   refine s1k p33.z rfl (yd p33.z rfl rfl s35) rfl fun a36 p37 s38 => ?_
   have s39 := p37.o s35 rfl
   refine s1k p37.z rfl (yd p37.z rfl rfl s39) rfl fun a40 p41 s42 => ?_
   have s43 := p41.o s39 rfl
   refine s1 p41.z (okPickF s43 cst) rfl fun a44 p45 s46 => ?_
   exact rN ⟨rfl, rfl, (((((((((Pg.refl p12.z).st p17 rfl).st p21 rfl).st p25 rfl).st p29 rfl).st p33 rfl).st p37 rfl).st p41 rfl).st p45 rfl), (andF hb14 s46)⟩
  ·have s47 := bv s13 hb14
   have s48 := p12.o (p9.o (p6.o s4 rfl) rfl) rfl
   refine s1g p12.z (okMv s48) rfl (yd p12.z rfl rfl s47) fun a49 p50 s51 => ?_
   have s52 := p50.o s47 rfl
   have s53 := p50.o (p12.o (p9.o (p6.o (p2.o s0_0 rfl) rfl) rfl) rfl) rfl
   refine s1g p50.z (okMv s53) rfl (yd p50.z rfl rfl s52) fun a54 p55 s56 => ?_
   have s57 := p55.o s52 rfl
   refine s1g p55.z (okNil s56) rfl (yd p55.z rfl rfl s57) fun a58 p59 s60 => ?_
   have s61 := p59.o s57 rfl
   refine s1g p59.z (okFA (o' := 0) fo72_0 s60 rfl) rfl (yd p59.z rfl rfl s61) fun a62 p63 s64 => ?_
   have s65 := p63.o s61 rfl
   refine s1g p63.z (okLd (j := 0) na28 s64 (mob0.cl) rfl rfl) rfl (yd p63.z rfl rfl s65) fun a66 p67 s68 => ?_
   have s69 := p67.o s65 rfl
   refine s1g p67.z (okLenO (E2 := 2) Try.underlying28 s68 qhp0_0) rfl (yd p67.z rfl rfl s69) fun a70 p71 s72 => ?_
   have s73 := p71.o s69 rfl
   have s74 := p71.o (p67.o (p63.o (p59.o (p55.o s51 rfl) rfl) rfl) rfl) rfl
   refine s1g p71.z (okLt s74 s72) rfl (yd p71.z rfl rfl s73) fun a75 p76 s77 => ?_
   have s78 := p76.o s73 rfl
   refine s1 p76.z (okPickT s78 s77) rfl fun a79 p80 s81 => ?_
   exact rN ⟨rfl, rfl, (((((((((Pg.refl p12.z).st p50 rfl).st p55 rfl).st p59 rfl).st p63 rfl).st p67 rfl).st p71 rfl).st p76 rfl).st p80 rfl), (andT hb14 s81)⟩
 rintro a82 ⟨pg83, s84⟩
 refine s1 pg83.z (okAs s84) rfl fun a85 p86 s87 => ?_
 refine rN (thenN ?_)
 obtain rfl := Option.some.inj h
 exact wp_ret (ret1 p86.z Try.results27 (rvT s87) ⟨_, rfl, rfl, c0.g⟩)

set_option maxHeartbeats 4000000 in
set_option maxRecDepth 100000 in
theorem c21 (L : List Nat) (w : World) (x0 : Tcell_Arena) (ob0 : Nat) (hp0_0 : Value) (x1 : Int) (x2 : Int) (hL : ∀ b ∈ (ob0 :: (ownB hp0_0 ++ L)), b < w.heap.size) (D : Sep [[ob0], ownB hp0_0] L) (mob0 : Bk w ob0 (Tcell_Arena.C x0 hp0_0) 72) (qhp0_0 : OwnS (KInt .i64) 2 (ob0 :: (ownB hp0_0 ++ L)) w hp0_0 x0.l) (r : Er × Tcell_Arena) (h : cell_Arena_Store x0 x1 x2 = some r) : Calls Try.prog 21 #[ptr ob0 0, .int .i64 x1, .int .i64 x2] w (fun e w' => ∃ v, e = .returned v ∧ ∃ u0_0, v = u0_0 ∧ ErG 36 0 (ob0 :: (ownB hp0_0 ++ L)) w' u0_0 r.1 ∧ Bk w' ob0 (Tcell_Arena.C r.2 hp0_0) 72 ∧ OwnS (KInt .i64) 2 (ob0 :: (ownB hp0_0 ++ L)) w' hp0_0 r.2.l ∧ Sep [[ob0], ownB hp0_0] L ∧ (∀ b ∈ (ob0 :: (ownB hp0_0 ++ L)), b < w'.heap.size) ∧ G (ob0 :: (ownB hp0_0 ++ [])) w w') := by
 refine enterF Try.func21 rfl rfl fun a0 z0 A => ?_
 have s0_0 := A 0 (ptr ob0 0) rfl
 have s0_1 := A 1 (.int .i64 x1) rfl
 have s0_2 := A 2 (.int .i64 x2) rfl
 clear A
 have hLb : ∀ b ∈ L, b < w.heap.size := fun b h => hL b (.tail _ (List.mem_append_right _ h))
 have c0 : Cx (ob0 :: (ownB hp0_0 ++ [])) w (ob0 :: (ownB hp0_0 ++ L)) w := ⟨G.refl _ _, hL⟩
 unfold cell_Arena_Store at h
 refine wp_seq ?_
 refine reg ?_
 refine s1 z0 (okAs cst) rfl fun a1 p2 s3 => ?_
 refine rN (thenN ?_)
 refine wp_seq ?_
 refine wp_seq ?_
 refine reg ?_
 have s4 := p2.o s0_0 rfl
 refine s1 p2.z (okMv s4) rfl fun a5 p6 s7 => ?_
 have s8 := p6.o (p2.o s0_1 rfl) rfl
 refine s1 p6.z (okMv s8) rfl fun a9 p10 s11 => ?_
 have s12 := p10.o s7 rfl
 obtain ⟨t13, ht14, h⟩ := Option.bind_eq_some_iff.1 h
 refine lS (oCall p10.z Try.call27 (ag2 s12 s11) (c27 L w x0 ob0 hp0_0 x1 c0.lt (sepC (show ∀ x ∈ [ob0], x ∉ (ownB hp0_0 ++ L) from (in1 (na (D.bo (i := 0) (j := 1) rfl rfl rfl) (D.bl (i := 0) rfl)))) (sepC (show ∀ x ∈ ownB hp0_0, x ∉ L from (fun x hx => ((D.dl (i := 1) rfl) x hx))) sepN)) mob0 qhp0_0 _ ht14) rfl fun v18 a15 w16 hp19 p17 sp17 => ?_)
 obtain ⟨rfl, g22⟩ := hp19
 have cx23 := c0.ca g22
 refine s1 p17.z (okNot sp17) rfl fun a24 p25 s26 => ?_
 refine rN (thenN ?_)
 have s27 := p25.o (p17.o (p10.o (p6.o s4 rfl) rfl) rfl) rfl
 have s28 := p25.o (p17.o (p10.o s8 rfl) rfl) rfl
 have s29 := p25.o (p17.o (p10.o (p6.o s3 rfl) rfl) rfl) rfl
 have pg30 : Pg _ [6, 7, 8, 9, 10] _ _ := ((((((Pg.refl z0).st p2 rfl).st p6 rfl).st p10 rfl).st p17 rfl).st p25 rfl)
 refine cnd s26 (fun hb31 => ?_) (fun hb31 => ?_)
 ·replace h := (ifP hb31).symm.trans h
  refine wp_seq ?_
  refine reg ?_
  refine s1 pg30.z (okMkI Try.underlying36 cst _) rfl fun a32 p33 s34 => ?_
  refine s1 p33.z (okAs s34) rfl fun a35 p36 s37 => ?_
  refine rN (thenN ?_)
  obtain rfl := Option.some.inj h
  have m38 := mob0.g0 g22
  have q39 := qhp0_0.t0 g22.t0 g22
  exact wp_ret (thenR (ret1 p36.z Try.results21 (rvT s37) ⟨_, rfl, (.iface 36 (.int .i64 6)), rfl, ErG.code, m38, q39, (sepC (show ∀ x ∈ [ob0], x ∉ (ownB hp0_0 ++ L) from (in1 (na (D.bo (i := 0) (j := 1) rfl rfl rfl) (D.bl (i := 0) rfl)))) (sepC (show ∀ x ∈ ownB hp0_0, x ∉ L from (fun x hx => ((D.dl (i := 1) rfl) x hx))) sepN)), (show ∀ b ∈ (ob0 :: (ownB hp0_0 ++ L)), b < w16.heap.size from cx23.lt), cx23.g⟩))
 replace h := (ifN hb31).symm.trans h
 refine wp_skip (thenN ?_)
 refine wp_seq ?_
 refine reg ?_
 refine s1 pg30.z (okMv s27) rfl fun a40 p41 s42 => ?_
 refine s1 p41.z (okNil s42) rfl fun a43 p44 s45 => ?_
 refine s1 p44.z (okFA (o' := 0) fo72_0 s45 rfl) rfl fun a46 p47 s48 => ?_
 have m49 := mob0.g0 g22
 refine s1 p47.z (okLd (j := 0) na28 s48 (m49.cl) rfl rfl) rfl fun a50 p51 s52 => ?_
 have s53 := p51.o (p47.o (p44.o (p41.o s28 rfl) rfl) rfl) rfl
 refine s1 p51.z (okMv s53) rfl fun a54 p55 s56 => ?_
 have s57 := p55.o (p51.o (p47.o (p44.o (p41.o (pg30.o s0_2 rfl) rfl) rfl) rfl) rfl) rfl
 refine s1 p55.z (okMv s57) rfl fun a58 p59 s60 => ?_
 have s61 := p59.o (p55.o s52 rfl) rfl
 have s62 := p59.o s56 rfl
 have q63 := qhp0_0.t0 g22.t0 g22
 obtain ⟨y64, hy65, h⟩ := Option.bind_eq_some_iff.1 h
 obtain ⟨b66, cs68, r70, e71, nb72, k69⟩ := q63.at_ hy65
 obtain rfl := r70
 refine s1 p59.z (k69 Try.underlying28 Try.sizeOf2 s61 s62 _) rfl fun a73 p74 s75 => ?_
 have s76 := p74.o s60 rfl
 refine lS (oStoE (K := (KInt .i64)) (e' := x2) (vs := [.int .i64 x2]) (j := 0) p74.z s75 s76 q63 hy65 nb72 e71 (fun _ h => (.tail _ (List.mem_append_left _ h))) rfl Try.sizeOf2 rfl one1 rfl rfl rfl rfl fun w77 q78 g79 => ?_)
 have cx80 := cx23.cs g79 (fun _ h => .inl (.tail _ (List.mem_append_left _ h)))
 refine rN (thenN ?_)
 refine wp_seq ?_
 refine reg ?_
 refine s1 p74.z (okAs cst) rfl fun a81 p82 s83 => ?_
 refine rN (thenN ?_)
 obtain rfl := Option.some.inj h
 have m84 := m49.g g79 (D.bo (i := 0) (j := 1) rfl rfl rfl)
 exact wp_ret (ret1 p82.z Try.results21 (rvT s83) ⟨_, rfl, .nilIface, rfl, ErG.nil, m84, q78, (sepC (show ∀ x ∈ [ob0], x ∉ (ownB hp0_0 ++ L) from (in1 (na (D.bo (i := 0) (j := 1) rfl rfl rfl) (D.bl (i := 0) rfl)))) (sepC (show ∀ x ∈ ownB hp0_0, x ∉ L from (fun x hx => ((D.dl (i := 1) rfl) x hx))) sepN)), (show ∀ b ∈ (ob0 :: (ownB hp0_0 ++ L)), b < w77.heap.size from cx80.lt), cx80.g⟩)

set_option maxHeartbeats 4000000 in
set_option maxRecDepth 100000 in
theorem c8 (k : Nat) (L : List Nat) (w : World) (x0 : List Int) (hp0 : Value) (x1 : Int) (hL : ∀ b ∈ L, b < w.heap.size) (D : Sep [] L) (qhp0 : RdS (KInt .i64) L w hp0 x0) (r : (Option Tcell_Arena) × (Option Tpermit_Table)) (h : tholelaw09_made k x0 x1 = some r) : Calls Try.prog 8 #[hp0, .int .i64 x1] w (fun e w' => ∃ v, e = .returned v ∧ ∃ u0 I0 u1 I1, v = .tuple #[u0, u1] ∧ POTcell_Arena u0 I0 (flat (I0 ++ (I1 ++ [])) L) w' r.1 ∧ POTpermit_Table u1 I1 (flat (I0 ++ (I1 ++ [])) L) w' r.2 ∧ Sep (I0 ++ (I1 ++ [])) L ∧ (∀ x ∈ flat I0 [], w.heap.size ≤ x) ∧ (∀ x ∈ flat I1 [], w.heap.size ≤ x) ∧ (∀ b ∈ (flat (I0 ++ (I1 ++ [])) L), b < w'.heap.size) ∧ G ([] : List Nat) w w') := by
 refine enterF Try.func8 rfl rfl fun a0 z0 A => ?_
 have s0_0 := A 0 (hp0) rfl
 have s0_1 := A 1 (.int .i64 x1) rfl
 clear A
 have hLb : ∀ b ∈ L, b < w.heap.size := fun b h => hL b h
 have c0 : Cx ([] : List Nat) w L w := ⟨G.refl _ _, hL⟩
 unfold tholelaw09_made at h
 refine wp_seq ?_
 refine reg ?_
 refine s1 z0 (okAs cst) rfl fun a1 p2 s3 => ?_
 refine s1 p2.z (okAs cst) rfl fun a4 p5 s6 => ?_
 refine rN (thenN ?_)
 refine wp_seq ?_
 refine reg ?_
 obtain ⟨t7, ht8, h⟩ := Option.bind_eq_some_iff.1 h
 refine lS (oCall p5.z Try.call18 (ag1 cst) (c18 L w 4096 c0.lt sepN _ ht8) rfl fun v12 a9 w10 hp13 p11 sp11 => ?_)
 obtain ⟨h14, u15, I16, rfl, q17, po18, D19, f22, lt20, g21⟩ := hp13
 obtain ho23 | ⟨y24, ho23⟩ := oNS t7.1
 ·rw [ho23] at po18
  obtain ⟨rfl, rfl⟩ := po18
  replace h := (omN ho23).symm.trans h
  have D25 : Sep [] L := D19
  have lt26 : ∀ b ∈ L, b < w10.heap.size := lt20
  have hs27 : ∀ i ∈ ([] : List Nat), i ∈ ([] : List Nat) ∨ w.heap.size ≤ i := memN
  have hs28 : ∀ i ∈ ([] : List Nat), i ∈ L := memN
  have t29 : Tr L w L w10 := G.tC g21 hs28 (fun i h => .inl h)
  have cx30 := c0.gs g21 hs27 lt26
  have q31 : ErG 36 0 L w10 h14 t7.2 := q17
  refine s1 p11.z (okMv sp11) rfl fun a32 p33 s34 => ?_
  refine s1 p33.z (okExt (vs := [_, _]) s34 rfl) rfl fun a35 p36 s37 => ?_
  have s38 := p36.o s34 rfl
  refine s1 p36.z (okExt (vs := [_, _]) s38 rfl) rfl fun a39 p40 s41 => ?_
  have s42 := p40.o s37 rfl
  refine s1 p40.z (okAs s42) rfl fun a43 p44 s45 => ?_
  have s46 := p44.o s41 rfl
  refine s1 p44.z (okAs s46) rfl fun a47 p48 s49 => ?_
  refine rN (thenN ?_)
  refine wp_seq ?_
  refine reg ?_
  have s50 := p48.o (p44.o (p40.o (p36.o (p33.o (p11.o (p5.o (p2.o s0_1 rfl) rfl) rfl) rfl) rfl) rfl) rfl) rfl
  refine s1 p48.z (okMv s50) rfl fun a51 p52 s53 => ?_
  obtain ⟨t54, ht55, h⟩ := Option.bind_eq_some_iff.1 h
  refine lS (oCall p52.z Try.call19 (ag1 s53) (c19 L w10 x1 cx30.lt sepN _ ht55) rfl fun v59 a56 w57 hp60 p58 sp58 => ?_)
  obtain ⟨h61, u62, I63, rfl, q64, po65, D66, f69, lt67, g68⟩ := hp60
  obtain ho70 | ⟨y71, ho70⟩ := oNS t54.1
  ·rw [ho70] at po65
   obtain ⟨rfl, rfl⟩ := po65
   replace h := (omN ho70).symm.trans h
   have D72 : Sep [] L := D66
   have lt73 : ∀ b ∈ L, b < w57.heap.size := lt67
   have hs74 : ∀ i ∈ ([] : List Nat), i ∈ ([] : List Nat) ∨ w.heap.size ≤ i := memN
   have hs75 : ∀ i ∈ ([] : List Nat), i ∈ L := memN
   have t76 : Tr L w10 L w57 := G.tC g68 hs75 (fun i h => .inl h)
   have cx77 := cx30.gs g68 hs74 lt73
   have q78 : ErG 36 0 L w57 h61 t54.2 := q64
   refine s1 p58.z (okMv sp58) rfl fun a79 p80 s81 => ?_
   refine s1 p80.z (okExt (vs := [_, _]) s81 rfl) rfl fun a82 p83 s84 => ?_
   have s85 := p83.o s81 rfl
   refine s1 p83.z (okExt (vs := [_, _]) s85 rfl) rfl fun a86 p87 s88 => ?_
   have s89 := p87.o s84 rfl
   refine s1 p87.z (okAs s89) rfl fun a90 p91 s92 => ?_
   have s93 := p91.o s88 rfl
   refine s1 p91.z (okAs s93) rfl fun a94 p95 s96 => ?_
   refine rN (thenN ?_)
   refine wp_seq ?_
   refine wp_seq ?_
   refine reg ?_
   have s97 := p95.o (p91.o (p87.o (p83.o (p80.o (p58.o (p52.o (p48.o s45 rfl) rfl) rfl) rfl) rfl) rfl) rfl) rfl
   refine s1 p95.z (okMv s97) rfl fun a98 p99 s100 => ?_
   refine s1 p99.z (okNEq Try.underlying24 s100 cst) rfl fun a101 p102 s103 => ?_
   refine s1 p102.z (okMv s103) rfl fun a104 p105 s106 => ?_
   refine s1k p105.z rfl (yd p105.z rfl rfl s106) rfl fun a107 p108 s109 => ?_
   have s110 := p108.o s106 rfl
   refine s1k p108.z rfl (yd p108.z rfl rfl s110) rfl fun a111 p112 s113 => ?_
   have s114 := p112.o s110 rfl
   refine s1 p112.z (okPickT s114 cst) rfl fun a115 p116 s117 => ?_
   refine s1 p116.z (okMv s117) rfl fun a118 p119 s120 => ?_
   refine s1k p119.z rfl (yd p119.z rfl rfl s120) rfl fun a121 p122 s123 => ?_
   have s124 := p122.o s120 rfl
   refine s1k p122.z rfl (yd p122.z rfl rfl s124) rfl fun a125 p126 s127 => ?_
   have s128 := p126.o s124 rfl
   refine s1 p126.z (okPickT s128 cst) rfl fun a129 p130 s131 => ?_
   refine s1 p130.z (okMv s131) rfl fun a132 p133 s134 => ?_
   refine s1k p133.z rfl (yd p133.z rfl rfl s134) rfl fun a135 p136 s137 => ?_
   have s138 := p136.o s134 rfl
   refine s1k p136.z rfl (yd p136.z rfl rfl s138) rfl fun a139 p140 s141 => ?_
   have s142 := p140.o s138 rfl
   refine s1 p140.z (okPickT s142 cst) rfl fun a143 p144 s145 => ?_
   refine rN (thenN ?_)
   refine wp_cond_true s145 ?_
   refine wp_seq ?_
   refine reg ?_
   refine s1 p144.z (okAs cst) rfl fun a146 p147 s148 => ?_
   refine s1 p147.z (okAs cst) rfl fun a149 p150 s151 => ?_
   refine rN (thenN ?_)
   have s152 := p150.o s148 rfl
   obtain rfl := Option.some.inj h
   exact wp_ret (thenR (ret2 p150.z Try.results8 (rvT s152) (rvT s151) ⟨_, rfl, (.pointer none), [], (.pointer none), [], rfl, ⟨rfl, rfl⟩, ⟨rfl, rfl⟩, sepN, memN, memN, (show ∀ b ∈ L, b < w57.heap.size from cx77.lt), cx77.g⟩))
  ·rw [ho70] at po65
   obtain ⟨oby71, hpy71_0, rfl, rfl, q153, q154⟩ := po65
   replace h := (omS ho70).symm.trans h
   have D155 : Sep [[oby71], ownB hpy71_0] L := D66
   have lt156 : ∀ b ∈ (oby71 :: (ownB hpy71_0 ++ L)), b < w57.heap.size := lt67
   have hs157 : ∀ i ∈ ([] : List Nat), i ∈ ([] : List Nat) ∨ w.heap.size ≤ i := memN
   have hs158 : ∀ i ∈ ([] : List Nat), i ∈ L := memN
   have t159 : Tr L w10 (oby71 :: (ownB hpy71_0 ++ L)) w57 := G.tC g68 hs158 (memC (.inr (f69 _ (List.mem_append_left _ (.head _)))) (memA (fun x hx => .inr ((fun _ h => f69 _ (List.mem_append_right _ (List.mem_append_left _ h))) x hx)) (fun i h => .inl h)))
   have cx160 := cx30.gs g68 hs157 lt156
   have q161 : ErG 36 0 (oby71 :: (ownB hpy71_0 ++ L)) w57 h61 t54.2 := q64
   have q162 : OwnS KTPark 59 (oby71 :: (ownB hpy71_0 ++ L)) w57 hpy71_0 y71.l := q154
   refine s1 p58.z (okMv sp58) rfl fun a163 p164 s165 => ?_
   refine s1 p164.z (okExt (vs := [_, _]) s165 rfl) rfl fun a166 p167 s168 => ?_
   have s169 := p167.o s165 rfl
   refine s1 p167.z (okExt (vs := [_, _]) s169 rfl) rfl fun a170 p171 s172 => ?_
   have s173 := p171.o s168 rfl
   refine s1 p171.z (okAs s173) rfl fun a174 p175 s176 => ?_
   have s177 := p175.o s172 rfl
   refine s1 p175.z (okAs s177) rfl fun a178 p179 s180 => ?_
   refine rN (thenN ?_)
   refine wp_seq ?_
   refine wp_seq ?_
   refine reg ?_
   have s181 := p179.o (p175.o (p171.o (p167.o (p164.o (p58.o (p52.o (p48.o s45 rfl) rfl) rfl) rfl) rfl) rfl) rfl) rfl
   refine s1 p179.z (okMv s181) rfl fun a182 p183 s184 => ?_
   refine s1 p183.z (okNEq Try.underlying24 s184 cst) rfl fun a185 p186 s187 => ?_
   refine s1 p186.z (okMv s187) rfl fun a188 p189 s190 => ?_
   refine s1k p189.z rfl (yd p189.z rfl rfl s190) rfl fun a191 p192 s193 => ?_
   have s194 := p192.o s190 rfl
   refine s1k p192.z rfl (yd p192.z rfl rfl s194) rfl fun a195 p196 s197 => ?_
   have s198 := p196.o s194 rfl
   refine s1 p196.z (okPickT s198 cst) rfl fun a199 p200 s201 => ?_
   refine s1 p200.z (okMv s201) rfl fun a202 p203 s204 => ?_
   refine s1k p203.z rfl (yd p203.z rfl rfl s204) rfl fun a205 p206 s207 => ?_
   have s208 := p206.o s204 rfl
   refine s1k p206.z rfl (yd p206.z rfl rfl s208) rfl fun a209 p210 s211 => ?_
   have s212 := p210.o s208 rfl
   refine s1 p210.z (okPickT s212 cst) rfl fun a213 p214 s215 => ?_
   refine s1 p214.z (okMv s215) rfl fun a216 p217 s218 => ?_
   refine s1k p217.z rfl (yd p217.z rfl rfl s218) rfl fun a219 p220 s221 => ?_
   have s222 := p220.o s218 rfl
   refine s1k p220.z rfl (yd p220.z rfl rfl s222) rfl fun a223 p224 s225 => ?_
   have s226 := p224.o s222 rfl
   refine s1 p224.z (okPickT s226 cst) rfl fun a227 p228 s229 => ?_
   refine rN (thenN ?_)
   refine wp_cond_true s229 ?_
   refine wp_seq ?_
   refine reg ?_
   refine s1 p228.z (okAs cst) rfl fun a230 p231 s232 => ?_
   refine s1 p231.z (okAs cst) rfl fun a233 p234 s235 => ?_
   refine rN (thenN ?_)
   have s236 := p234.o s232 rfl
   obtain rfl := Option.some.inj h
   exact wp_ret (thenR (ret2 p234.z Try.results8 (rvT s236) (rvT s235) ⟨_, rfl, (.pointer none), [], (.pointer none), [], rfl, ⟨rfl, rfl⟩, ⟨rfl, rfl⟩, sepN, memN, memN, (show ∀ b ∈ L, b < w57.heap.size from (fun i h => cx160.lt i (.tail _ (List.mem_append_right _ h)))), cx160.g⟩))
 ·rw [ho23] at po18
  obtain ⟨oby24, hpy24_0, rfl, rfl, q237, q238⟩ := po18
  replace h := (omS ho23).symm.trans h
  have D239 : Sep [[oby24], ownB hpy24_0] L := D19
  have lt240 : ∀ b ∈ (oby24 :: (ownB hpy24_0 ++ L)), b < w10.heap.size := lt20
  have hs241 : ∀ i ∈ ([] : List Nat), i ∈ ([] : List Nat) ∨ w.heap.size ≤ i := memN
  have hs242 : ∀ i ∈ ([] : List Nat), i ∈ L := memN
  have t243 : Tr L w (oby24 :: (ownB hpy24_0 ++ L)) w10 := G.tC g21 hs242 (memC (.inr (f22 _ (List.mem_append_left _ (.head _)))) (memA (fun x hx => .inr ((fun _ h => f22 _ (List.mem_append_right _ (List.mem_append_left _ h))) x hx)) (fun i h => .inl h)))
  have cx244 := c0.gs g21 hs241 lt240
  have q245 : ErG 36 0 (oby24 :: (ownB hpy24_0 ++ L)) w10 h14 t7.2 := q17
  have q246 : OwnS (KInt .i64) 2 (oby24 :: (ownB hpy24_0 ++ L)) w10 hpy24_0 y24.l := q238
  refine s1 p11.z (okMv sp11) rfl fun a247 p248 s249 => ?_
  refine s1 p248.z (okExt (vs := [_, _]) s249 rfl) rfl fun a250 p251 s252 => ?_
  have s253 := p251.o s249 rfl
  refine s1 p251.z (okExt (vs := [_, _]) s253 rfl) rfl fun a254 p255 s256 => ?_
  have s257 := p255.o s252 rfl
  refine s1 p255.z (okAs s257) rfl fun a258 p259 s260 => ?_
  have s261 := p259.o s256 rfl
  refine s1 p259.z (okAs s261) rfl fun a262 p263 s264 => ?_
  refine rN (thenN ?_)
  refine wp_seq ?_
  refine reg ?_
  have s265 := p263.o (p259.o (p255.o (p251.o (p248.o (p11.o (p5.o (p2.o s0_1 rfl) rfl) rfl) rfl) rfl) rfl) rfl) rfl
  refine s1 p263.z (okMv s265) rfl fun a266 p267 s268 => ?_
  obtain ⟨t269, ht270, h⟩ := Option.bind_eq_some_iff.1 h
  refine lS (oCall p267.z Try.call19 (ag1 s268) (c19 (oby24 :: (ownB hpy24_0 ++ L)) w10 x1 cx244.lt sepN _ ht270) rfl fun v274 a271 w272 hp275 p273 sp273 => ?_)
  obtain ⟨h276, u277, I278, rfl, q279, po280, D281, f284, lt282, g283⟩ := hp275
  obtain ho285 | ⟨y286, ho285⟩ := oNS t269.1
  ·rw [ho285] at po280
   obtain ⟨rfl, rfl⟩ := po280
   replace h := (omN ho285).symm.trans h
   have D287 : Sep [] (oby24 :: (ownB hpy24_0 ++ L)) := D281
   have lt288 : ∀ b ∈ (oby24 :: (ownB hpy24_0 ++ L)), b < w272.heap.size := lt282
   have hs289 : ∀ i ∈ ([] : List Nat), i ∈ ([] : List Nat) ∨ w.heap.size ≤ i := memN
   have hs290 : ∀ i ∈ ([] : List Nat), i ∈ (oby24 :: (ownB hpy24_0 ++ L)) := memN
   have t291 : Tr (oby24 :: (ownB hpy24_0 ++ L)) w10 (oby24 :: (ownB hpy24_0 ++ L)) w272 := G.tC g283 hs290 (fun i h => .inl h)
   have cx292 := cx244.gs g283 hs289 lt288
   have q293 : ErG 36 0 (oby24 :: (ownB hpy24_0 ++ L)) w272 h276 t269.2 := q279
   refine s1 p273.z (okMv sp273) rfl fun a294 p295 s296 => ?_
   refine s1 p295.z (okExt (vs := [_, _]) s296 rfl) rfl fun a297 p298 s299 => ?_
   have s300 := p298.o s296 rfl
   refine s1 p298.z (okExt (vs := [_, _]) s300 rfl) rfl fun a301 p302 s303 => ?_
   have s304 := p302.o s299 rfl
   refine s1 p302.z (okAs s304) rfl fun a305 p306 s307 => ?_
   have s308 := p306.o s303 rfl
   refine s1 p306.z (okAs s308) rfl fun a309 p310 s311 => ?_
   refine rN (thenN ?_)
   refine wp_seq ?_
   refine wp_seq ?_
   refine reg ?_
   have s312 := p310.o (p306.o (p302.o (p298.o (p295.o (p273.o (p267.o (p263.o s260 rfl) rfl) rfl) rfl) rfl) rfl) rfl) rfl
   refine s1 p310.z (okMv s312) rfl fun a313 p314 s315 => ?_
   refine s1 p314.z (okPEq Try.underlying24 s315 cst) rfl fun a316 p317 s318 => ?_
   refine s1 p317.z (okMv s318) rfl fun a319 p320 s321 => ?_
   have s322 := p320.o (p317.o (p314.o (p310.o s307 rfl) rfl) rfl) rfl
   refine s1g p320.z (okMv s322) rfl (yd p320.z rfl rfl s321) fun a323 p324 s325 => ?_
   have s326 := p324.o s321 rfl
   refine s1g p324.z (okNEq Try.underlying25 s325 cst) rfl (yd p324.z rfl rfl s326) fun a327 p328 s329 => ?_
   have s330 := p328.o s326 rfl
   refine s1 p328.z (okPickF s330 s329) rfl fun a331 p332 s333 => ?_
   refine s1 p332.z (okMv s333) rfl fun a334 p335 s336 => ?_
   refine s1k p335.z rfl (yd p335.z rfl rfl s336) rfl fun a337 p338 s339 => ?_
   have s340 := p338.o s336 rfl
   refine s1k p338.z rfl (yd p338.z rfl rfl s340) rfl fun a341 p342 s343 => ?_
   have s344 := p342.o s340 rfl
   refine s1 p342.z (okPickT s344 cst) rfl fun a345 p346 s347 => ?_
   refine s1 p346.z (okMv s347) rfl fun a348 p349 s350 => ?_
   refine s1k p349.z rfl (yd p349.z rfl rfl s350) rfl fun a351 p352 s353 => ?_
   have s354 := p352.o s350 rfl
   refine s1k p352.z rfl (yd p352.z rfl rfl s354) rfl fun a355 p356 s357 => ?_
   have s358 := p356.o s354 rfl
   refine s1 p356.z (okPickT s358 cst) rfl fun a359 p360 s361 => ?_
   refine rN (thenN ?_)
   refine wp_cond_true s361 ?_
   refine wp_seq ?_
   refine reg ?_
   refine s1 p360.z (okAs cst) rfl fun a362 p363 s364 => ?_
   refine s1 p363.z (okAs cst) rfl fun a365 p366 s367 => ?_
   refine rN (thenN ?_)
   have s368 := p366.o s364 rfl
   obtain rfl := Option.some.inj h
   exact wp_ret (thenR (ret2 p366.z Try.results8 (rvT s368) (rvT s367) ⟨_, rfl, (.pointer none), [], (.pointer none), [], rfl, ⟨rfl, rfl⟩, ⟨rfl, rfl⟩, sepN, memN, memN, (show ∀ b ∈ L, b < w272.heap.size from (fun i h => cx292.lt i (.tail _ (List.mem_append_right _ h)))), cx292.g⟩))
  ·rw [ho285] at po280
   obtain ⟨oby286, hpy286_0, rfl, rfl, q369, q370⟩ := po280
   replace h := (omS ho285).symm.trans h
   have D371 : Sep [[oby286], ownB hpy286_0] (oby24 :: (ownB hpy24_0 ++ L)) := D281
   have lt372 : ∀ b ∈ (oby286 :: (ownB hpy286_0 ++ (oby24 :: (ownB hpy24_0 ++ L)))), b < w272.heap.size := lt282
   have hs373 : ∀ i ∈ ([] : List Nat), i ∈ ([] : List Nat) ∨ w.heap.size ≤ i := memN
   have hs374 : ∀ i ∈ ([] : List Nat), i ∈ (oby24 :: (ownB hpy24_0 ++ L)) := memN
   have t375 : Tr (oby24 :: (ownB hpy24_0 ++ L)) w10 (oby286 :: (ownB hpy286_0 ++ (oby24 :: (ownB hpy24_0 ++ L)))) w272 := G.tC g283 hs374 (memC (.inr (f284 _ (List.mem_append_left _ (.head _)))) (memA (fun x hx => .inr ((fun _ h => f284 _ (List.mem_append_right _ (List.mem_append_left _ h))) x hx)) (fun i h => .inl h)))
   have cx376 := cx244.gs g283 hs373 lt372
   have q377 : ErG 36 0 (oby286 :: (ownB hpy286_0 ++ (oby24 :: (ownB hpy24_0 ++ L)))) w272 h276 t269.2 := q279
   have q378 : OwnS KTPark 59 (oby286 :: (ownB hpy286_0 ++ (oby24 :: (ownB hpy24_0 ++ L)))) w272 hpy286_0 y286.l := q370
   refine s1 p273.z (okMv sp273) rfl fun a379 p380 s381 => ?_
   refine s1 p380.z (okExt (vs := [_, _]) s381 rfl) rfl fun a382 p383 s384 => ?_
   have s385 := p383.o s381 rfl
   refine s1 p383.z (okExt (vs := [_, _]) s385 rfl) rfl fun a386 p387 s388 => ?_
   have s389 := p387.o s384 rfl
   refine s1 p387.z (okAs s389) rfl fun a390 p391 s392 => ?_
   have s393 := p391.o s388 rfl
   refine s1 p391.z (okAs s393) rfl fun a394 p395 s396 => ?_
   refine rN (thenN ?_)
   refine wp_seq ?_
   refine wp_seq ?_
   refine reg ?_
   have s397 := p395.o (p391.o (p387.o (p383.o (p380.o (p273.o (p267.o (p263.o s260 rfl) rfl) rfl) rfl) rfl) rfl) rfl) rfl
   refine s1 p395.z (okMv s397) rfl fun a398 p399 s400 => ?_
   refine s1 p399.z (okPEq Try.underlying24 s400 cst) rfl fun a401 p402 s403 => ?_
   refine s1 p402.z (okMv s403) rfl fun a404 p405 s406 => ?_
   have s407 := p405.o (p402.o (p399.o (p395.o s392 rfl) rfl) rfl) rfl
   refine s1g p405.z (okMv s407) rfl (yd p405.z rfl rfl s406) fun a408 p409 s410 => ?_
   have s411 := p409.o s406 rfl
   refine s1g p409.z (okPEq Try.underlying25 s410 cst) rfl (yd p409.z rfl rfl s411) fun a412 p413 s414 => ?_
   have s415 := p413.o s411 rfl
   refine s1 p413.z (okPickF s415 s414) rfl fun a416 p417 s418 => ?_
   refine s1 p417.z (okMv s418) rfl fun a419 p420 s421 => ?_
   have s422 := p420.o (p417.o (p413.o (p409.o (p405.o (p402.o (p399.o (p395.o (p391.o (p387.o (p383.o (p380.o (p273.o (p267.o s264 rfl) rfl) rfl) rfl) rfl) rfl) rfl) rfl) rfl) rfl) rfl) rfl) rfl) rfl
   refine s1g p420.z (okMv s422) rfl (yd p420.z rfl rfl s421) fun a423 p424 s425 => ?_
   have s426 := p424.o s421 rfl
   have q427 := q245.mono t375
   refine s1g p424.z (okENeN ef33 s425 q427 _) rfl (yd p424.z rfl rfl s426) fun a428 p429 s430 => ?_
   have s431 := p429.o s426 rfl
   refine s1 p429.z (okPickF s431 s430) rfl fun a432 p433 s434 => ?_
   refine s1 p433.z (okMv s434) rfl fun a435 p436 s437 => ?_
   refine cutP 3 (fun a' => Pg Try.f8.ntmps [34, 35, 36] a435 a' ∧ a'.eval (.tmp 36) = .bool ((!(t7.2).isN) || (!(t269.2).isN))) ?_ ?_
   ·rcases bf (!(t7.2).isN) with hb438 | hb438
    ·have s439 := bv s437 hb438
     have s440 := p436.o (p433.o (p429.o (p424.o (p420.o (p417.o (p413.o (p409.o (p405.o (p402.o (p399.o s396 rfl) rfl) rfl) rfl) rfl) rfl) rfl) rfl) rfl) rfl) rfl
     refine s1g p436.z (okMv s440) rfl (yd p436.z rfl rfl s439) fun a441 p442 s443 => ?_
     have s444 := p442.o s439 rfl
     refine s1g p442.z (okENeN ef33 s443 q377 _) rfl (yd p442.z rfl rfl s444) fun a445 p446 s447 => ?_
     have s448 := p446.o s444 rfl
     refine s1 p446.z (okPickF s448 s447) rfl fun a449 p450 s451 => ?_
     exact rN ⟨rfl, rfl, ((((Pg.refl p436.z).st p442 rfl).st p446 rfl).st p450 rfl), (orF hb438 s451)⟩
    ·have s452 := bv s437 hb438
     refine s1k p436.z rfl (yd p436.z rfl rfl s452) rfl fun a453 p454 s455 => ?_
     have s456 := p454.o s452 rfl
     refine s1k p454.z rfl (yd p454.z rfl rfl s456) rfl fun a457 p458 s459 => ?_
     have s460 := p458.o s456 rfl
     refine s1 p458.z (okPickT s460 cst) rfl fun a461 p462 s463 => ?_
     exact rN ⟨rfl, rfl, ((((Pg.refl p436.z).st p454 rfl).st p458 rfl).st p462 rfl), (orT hb438 s463)⟩
   rintro a464 ⟨pg465, s466⟩
   refine rN (thenN ?_)
   have s467 := pg465.o (p436.o (p433.o (p429.o (p424.o (p420.o (p417.o (p413.o (p409.o (p405.o (p402.o (p399.o (p395.o (p391.o (p387.o (p383.o (p380.o (p273.o (p267.o (p263.o (p259.o (p255.o (p251.o (p248.o (p11.o (p5.o s3 rfl) rfl) rfl) rfl) rfl) rfl) rfl) rfl) rfl) rfl) rfl) rfl) rfl) rfl) rfl) rfl) rfl) rfl) rfl) rfl) rfl) rfl) rfl) rfl) rfl) rfl
   have s468 := pg465.o (p436.o (p433.o (p429.o (p424.o (p420.o (p417.o (p413.o (p409.o (p405.o (p402.o (p399.o (p395.o (p391.o (p387.o (p383.o (p380.o (p273.o (p267.o (p263.o (p259.o (p255.o (p251.o (p248.o (p11.o s6 rfl) rfl) rfl) rfl) rfl) rfl) rfl) rfl) rfl) rfl) rfl) rfl) rfl) rfl) rfl) rfl) rfl) rfl) rfl) rfl) rfl) rfl) rfl) rfl) rfl
   have s469 := pg465.o (p436.o (p433.o (p429.o (p424.o (p420.o (p417.o (p413.o (p409.o (p405.o (p402.o (p399.o s397 rfl) rfl) rfl) rfl) rfl) rfl) rfl) rfl) rfl) rfl) rfl) rfl
   have s470 := pg465.o (p436.o (p433.o (p429.o (p424.o (p420.o (p417.o (p413.o (p409.o s407 rfl) rfl) rfl) rfl) rfl) rfl) rfl) rfl) rfl
   have pg471 : Pg _ [4, 5, 6, 7, 8, 9, 14, 15, 16, 17, 18, 19, 20, 21, 22, 23, 24, 25, 26, 27, 28, 29, 30, 31, 32, 33, 34, 35, 36] _ _ := ((((((((((((((((((((((((((((Pg.refl z0).st p2 rfl).st p5 rfl).st p11 rfl).st p248 rfl).st p251 rfl).st p255 rfl).st p259 rfl).st p263 rfl).st p267 rfl).st p273 rfl).st p380 rfl).st p383 rfl).st p387 rfl).st p391 rfl).st p395 rfl).st p399 rfl).st p402 rfl).st p405 rfl).st p409 rfl).st p413 rfl).st p417 rfl).st p420 rfl).st p424 rfl).st p429 rfl).st p433 rfl).st p436 rfl).tr pg465 rfl)
   refine cnd s466 (fun hb472 => ?_) (fun hb472 => ?_)
   ·replace h := (ifP hb472).symm.trans h
    refine wp_seq ?_
    refine reg ?_
    refine s1 pg471.z (okAs cst) rfl fun a473 p474 s475 => ?_
    refine s1 p474.z (okAs cst) rfl fun a476 p477 s478 => ?_
    refine rN (thenN ?_)
    have s479 := p477.o s475 rfl
    obtain rfl := Option.some.inj h
    exact wp_ret (thenR (ret2 p477.z Try.results8 (rvT s479) (rvT s478) ⟨_, rfl, (.pointer none), [], (.pointer none), [], rfl, ⟨rfl, rfl⟩, ⟨rfl, rfl⟩, sepN, memN, memN, (show ∀ b ∈ L, b < w272.heap.size from (fun i h => cx376.lt i (.tail _ (List.mem_append_right _ (.tail _ (List.mem_append_right _ h)))))), cx376.g⟩))
   replace h := (ifN hb472).symm.trans h
   refine wp_skip (thenN ?_)
   refine wp_seq ?_
   refine wp_seq ?_
   refine reg ?_
   have s480 := pg471.o s0_0 rfl
   refine s1 pg471.z (okMv s480) rfl fun a481 p482 s483 => ?_
   have q484 := qhp0.mono (t243.trans t375)
   refine s1 p482.z (okLenR Try.underlying28 s483 q484) rfl fun a485 p486 s487 => ?_
   refine s1 p486.z (okGt s487 cst) rfl fun a488 p489 s490 => ?_
   refine rN (thenN ?_)
   have pg491 : Pg _ [37, 38, 39] _ _ := ((((Pg.refl pg471.z).st p482 rfl).st p486 rfl).st p489 rfl)
   refine cnd s490 (fun hb492 => ?_) (fun hb492 => ?_)
   ·replace h := (ifP hb492).symm.trans h
    refine wp_seq ?_
    refine reg ?_
    have s493 := pg491.o s469 rfl
    refine s1 pg491.z (okMv s493) rfl fun a494 p495 s496 => ?_
    have s497 := p495.o (pg491.o s480 rfl) rfl
    refine s1 p495.z (okMv s497) rfl fun a498 p499 s500 => ?_
    refine s1 p499.z (okLenR Try.underlying28 s500 q484) rfl fun a501 p502 s503 => ?_
    have s504 := p502.o (p499.o s496 rfl) rfl
    have m505 := q237.g0 g283
    have q506 := q246.t0 t375 g283
    obtain ⟨t507, ht508, h⟩ := Option.bind_eq_some_iff.1 h
    refine lS (oCall p502.z Try.call20 (ag2 s504 s503) (c20 (oby286 :: (ownB hpy286_0 ++ L)) w272 y24 oby24 hpy24_0 (x0.length : Int) (fun i h => cx376.lt i ((List.mem_cons.1 h).elim (fun e => e ▸ (.tail _ (List.mem_append_right _ (.head _)))) (fun h => (List.mem_append.1 h).elim (fun h => (.tail _ (List.mem_append_right _ (.tail _ (List.mem_append_left _ h))))) (fun h => (List.mem_cons.1 h).elim (fun e => e ▸ (.head _)) (fun h => (List.mem_append.1 h).elim (fun h => (.tail _ (List.mem_append_left _ h))) (fun h => (.tail _ (List.mem_append_right _ (.tail _ (List.mem_append_right _ h)))))))))) (sepC (show ∀ x ∈ [oby24], x ∉ (ownB hpy24_0 ++ (oby286 :: (ownB hpy286_0 ++ L))) from (in1 (na (D239.bo (i := 0) (j := 1) rfl rfl rfl) (nc (nmem (D371.bl (i := 0) rfl) (.head _)).symm (na (fun hb => D371.dl (i := 1) rfl _ hb (.head _)) (fun h => Nat.lt_irrefl _ (Nat.lt_of_lt_of_le (hLb _ h) (Nat.le_trans c0.g.sz (f22 _ (List.mem_append_left _ (.head _))))))))))) (sepC (show ∀ x ∈ ownB hpy24_0, x ∉ (oby286 :: (ownB hpy286_0 ++ L)) from (fun x hx => (nc (nbo (fun hk => D371.bl (i := 0) rfl (.tail _ (List.mem_append_left _ hk))) hx) (na ((djs (fun x hx hk => D371.dl (i := 1) rfl x hx (.tail _ (List.mem_append_left _ hk)))) x hx) ((fun x hx hl => D239.dl (i := 1) rfl x hx hl) x hx))))) sepN)) m505 (q506.sub (fun i h => (List.mem_cons.1 h).elim (fun e => e ▸ (.tail _ (List.mem_append_right _ (.head _)))) (fun h => (List.mem_append.1 h).elim (fun h => (.tail _ (List.mem_append_right _ (.tail _ (List.mem_append_left _ h))))) (fun h => (List.mem_cons.1 h).elim (fun e => e ▸ (.head _)) (fun h => (List.mem_append.1 h).elim (fun h => (.tail _ (List.mem_append_left _ h))) (fun h => (.tail _ (List.mem_append_right _ (.tail _ (List.mem_append_right _ h)))))))))) _ ht508) rfl fun v512 a509 w510 hp513 p511 sp511 => ?_)
    obtain ⟨h514, h515, rfl, q516, m517, q518, D519, f522, lt520, g521⟩ := hp513
    have hs523 : ∀ i ∈ (oby24 :: (ownB hpy24_0 ++ [])), i ∈ ([] : List Nat) ∨ w.heap.size ≤ i := (memC (.inr (Nat.le_trans c0.g.sz (f22 _ (List.mem_append_left _ (.head _))))) (memA (fun x hx => .inr (Nat.le_trans c0.g.sz ((fun _ h => f22 _ (List.mem_append_right _ (List.mem_append_left _ h))) x hx))) memN))
    have hs524 : ∀ i ∈ (oby24 :: (ownB hpy24_0 ++ [])), i ∈ (oby286 :: (ownB hpy286_0 ++ (oby24 :: (ownB hpy24_0 ++ L)))) := (memC (.tail _ (List.mem_append_right _ (.head _))) (memA (fun _ h => (.tail _ (List.mem_append_right _ (.tail _ (List.mem_append_left _ h))))) memN))
    have t525 : Tr (oby286 :: (ownB hpy286_0 ++ (oby24 :: (ownB hpy24_0 ++ L)))) w272 (oby24 :: (ownB h515 ++ (oby286 :: (ownB hpy286_0 ++ L)))) w510 := G.tC g521 hs524 (memC (.inl (.tail _ (List.mem_append_right _ (.head _)))) (memA (frL f522 hs524) (fun i h => .inl ((List.mem_cons.1 h).elim (fun e => e ▸ (.head _)) (fun h => (List.mem_append.1 h).elim (fun h => (.tail _ (List.mem_append_left _ h))) (fun h => (.tail _ (List.mem_append_right _ (.tail _ (List.mem_append_right _ h))))))))))
    have cx526 := cx376.gs g521 hs523 lt520
    refine s1 p511.z (okMv sp511) rfl fun a527 p528 s529 => ?_
    refine s1 p528.z (okExt (vs := [_, _]) s529 rfl) rfl fun a530 p531 s532 => ?_
    have s533 := p531.o s529 rfl
    refine s1 p531.z (okExt (vs := [_, _]) s533 rfl) rfl fun a534 p535 s536 => ?_
    have s537 := p535.o s532 rfl
    refine s1 p535.z (okAs s537) rfl fun a538 p539 s540 => ?_
    have s541 := p539.o s536 rfl
    refine s1 p539.z (okAs s541) rfl fun a542 p543 s544 => ?_
    refine rN (thenN ?_)
    refine wp_seq ?_
    refine reg ?_
    refine s1 p543.z (okMv s544) rfl fun a545 p546 s547 => ?_
    refine s1 p546.z (okENeN ef33 s547 q516 _) rfl fun a548 p549 s550 => ?_
    refine rN (thenN ?_)
    have s551 := p549.o (p546.o (p543.o (p539.o (p535.o (p531.o (p528.o (p511.o (p502.o (p499.o s497 rfl) rfl) rfl) rfl) rfl) rfl) rfl) rfl) rfl) rfl
    have pg552 : Pg _ [10, 11, 40, 41, 42, 43, 44, 45, 46, 47, 48] _ _ := ((((((((((((Pg.refl pg491.z).st p495 rfl).st p499 rfl).st p502 rfl).st p511 rfl).st p528 rfl).st p531 rfl).st p535 rfl).st p539 rfl).st p543 rfl).st p546 rfl).st p549 rfl)
    refine cnd s550 (fun hb553 => ?_) (fun hb553 => ?_)
    ·replace h := (ifP hb553).symm.trans h
     refine wp_seq ?_
     refine reg ?_
     refine s1 pg552.z (okAs cst) rfl fun a554 p555 s556 => ?_
     refine s1 p555.z (okAs cst) rfl fun a557 p558 s559 => ?_
     refine rN (thenN ?_)
     have s560 := p558.o s556 rfl
     obtain rfl := Option.some.inj h
     exact wp_ret (thenR (ret2 p558.z Try.results8 (rvT s560) (rvT s559) ⟨_, rfl, (.pointer none), [], (.pointer none), [], rfl, ⟨rfl, rfl⟩, ⟨rfl, rfl⟩, sepN, memN, memN, (show ∀ b ∈ L, b < w510.heap.size from (fun i h => cx526.lt i (.tail _ (List.mem_append_right _ (.tail _ (List.mem_append_right _ h)))))), cx526.g⟩))
    replace h := (ifN hb553).symm.trans h
    refine wp_skip (thenN ?_)
    refine wp_seq ?_
    refine wp_seq ?_
    refine reg ?_
    refine s1 pg552.z (okAs cst) rfl fun a561 p562 s563 => ?_
    refine rN (thenN ?_)
    refine wp_block ?_
    obtain ⟨o567, ho568, h⟩ := Option.bind_eq_some_iff.1 h
    have s572 := p562.o s551 rfl
    have s573 := p562.o (pg552.o (pg491.o s467 rfl) rfl) rfl
    have s574 := p562.o (pg552.o (pg491.o s468 rfl) rfl) rfl
    have s575 := p562.o (pg552.o s493 rfl) rfl
    have s576 := p562.o (pg552.o (pg491.o s470 rfl) rfl) rfl
    have m577 := q369.g g521 (nc (nmem (D371.bl (i := 0) rfl) (.head _)) (na (fun hk => D371.bl (i := 0) rfl (.tail _ (List.mem_append_left _ hk))) not_nil))
    have q578 := q484.mono t525
    have q579 := q378.tr t525 g521 (fun x hx => (nc (nbo (fun hb => D371.dl (i := 1) rfl _ hb (.head _)) hx) (na ((fun x hx hk => D371.dl (i := 1) rfl x hx (.tail _ (List.mem_append_left _ hk))) x hx) not_nil)))
    refine loopX (I := (fun k' a' w' => ∃ i564 i565 i566 h569, Z Try.f8.ntmps a' ∧ a'.eval (.tmp 0) = hp0 ∧ a'.eval (.tmp 4) = .pointer none ∧ a'.eval (.tmp 5) = .pointer none ∧ a'.eval (.tmp 6) = ptr oby24 0 ∧ a'.eval (.tmp 8) = ptr oby286 0 ∧ a'.eval (.tmp 12) = .int .i64 i566 ∧ Bk w' oby24 (Tcell_Arena.C (⟨i564, i565⟩ : Tcell_Arena) h569) 72 ∧ Bk w' oby286 (Tpermit_Table.C y286 hpy286_0) 78 ∧ RdS (KInt .i64) (ownB h569 ++ (oby24 :: (oby286 :: (ownB hpy286_0 ++ L)))) w' hp0 x0 ∧ OwnS (KInt .i64) 2 (ownB h569 ++ (oby24 :: (oby286 :: (ownB hpy286_0 ++ L)))) w' h569 i564 ∧ OwnS KTPark 59 (ownB h569 ++ (oby24 :: (oby286 :: (ownB hpy286_0 ++ L)))) w' hpy286_0 y286.l ∧ Cx ([] : List Nat) w (ownB h569 ++ (oby24 :: (oby286 :: (ownB hpy286_0 ++ L)))) w' ∧ (∀ x ∈ ownB h569, x ∉ L) ∧ (∀ x ∈ ownB h569, x ∈ ([] : List Nat) ∨ w.heap.size ≤ x) ∧ oby24 ∉ ownB h569 ∧ oby286 ∉ ownB h569 ∧ (∀ x ∈ ownB hpy286_0, x ∉ ownB h569) ∧ tholelaw09_made.l0 x0 k' i564 i565 i566 = some o567)) 0 (fun a' w' => ∃ g570 h571, o567 = .go g570 ∧ Z Try.f8.ntmps a' ∧ a'.eval (.tmp 4) = .pointer none ∧ a'.eval (.tmp 5) = .pointer none ∧ a'.eval (.tmp 6) = ptr oby24 0 ∧ a'.eval (.tmp 8) = ptr oby286 0 ∧ Bk w' oby24 (Tcell_Arena.C (⟨g570.1, g570.2⟩ : Tcell_Arena) h571) 72 ∧ Bk w' oby286 (Tpermit_Table.C y286 hpy286_0) 78 ∧ OwnS (KInt .i64) 2 (ownB h571 ++ (oby24 :: (oby286 :: (ownB hpy286_0 ++ L)))) w' h571 g570.1 ∧ OwnS KTPark 59 (ownB h571 ++ (oby24 :: (oby286 :: (ownB hpy286_0 ++ L)))) w' hpy286_0 y286.l ∧ Cx ([] : List Nat) w (ownB h571 ++ (oby24 :: (oby286 :: (ownB hpy286_0 ++ L)))) w' ∧ (∀ x ∈ ownB h571, x ∉ L) ∧ (∀ x ∈ ownB h571, x ∈ ([] : List Nat) ∨ w.heap.size ≤ x) ∧ oby24 ∉ ownB h571 ∧ oby286 ∉ ownB h571 ∧ (∀ x ∈ ownB hpy286_0, x ∉ ownB h571)) ⟨t507.2.2.l, t507.2.2.most, 0, h515, p562.z, s572, s573, s574, s575, s576, s563, m517, m577, (q578.mono ((Tr.refl _ _).sub (fun i h => (List.mem_append.1 h).elim (fun h => (.tail _ (List.mem_append_left _ h))) (fun h => (List.mem_cons.1 h).elim (fun e => e ▸ (.head _)) (fun h => (.tail _ (List.mem_append_right _ h))))))), (q518.sub (fun i h => (List.mem_append.1 h).elim (fun h => (.tail _ (List.mem_append_left _ h))) (fun h => (List.mem_cons.1 h).elim (fun e => e ▸ (.head _)) (fun h => (.tail _ (List.mem_append_right _ h)))))), (q579.sub (fun i h => (List.mem_append.1 h).elim (fun h => (.tail _ (List.mem_append_left _ h))) (fun h => (List.mem_cons.1 h).elim (fun e => e ▸ (.head _)) (fun h => (.tail _ (List.mem_append_right _ h)))))), (cx526.sub (fun i h => (List.mem_append.1 h).elim (fun h => (.tail _ (List.mem_append_left _ h))) (fun h => (List.mem_cons.1 h).elim (fun e => e ▸ (.head _)) (fun h => (.tail _ (List.mem_append_right _ h)))))), (fun x hx hl => D519.dl (i := 1) rfl x hx (.tail _ (List.mem_append_right _ hl))), (frC f522 hs523 cx376.g.sz), (D519.bo (i := 0) (j := 1) rfl rfl rfl), (fun hb => D519.dl (i := 1) rfl _ hb (.head _)), (djs (fun x hx hk => D519.dl (i := 1) rfl x hx (.tail _ (List.mem_append_left _ hk)))), ho568⟩ ?_ ?_
    ·have oh596 := h; clear h ho568
     rintro k580 a581 w582 ⟨i564, i565, i566, h569, z583, s584, s585, s586, s587, s588, s589, m590, m591, q592, q593, q594, cx595, n597, n598, n599, n600, n601, h⟩
     obtain _ | k := k580
     case zero => cases h
     rw [tholelaw09_made.l0] at h
     refine wp_seq ?_
     refine wp_seq ?_
     refine reg ?_
     refine s1 z583 (okMv s589) rfl fun a602 p603 s604 => ?_
     have s605 := p603.o s584 rfl
     refine s1 p603.z (okMv s605) rfl fun a606 p607 s608 => ?_
     refine s1 p607.z (okLenR Try.underlying28 s608 q592) rfl fun a609 p610 s611 => ?_
     have s612 := p610.o (p607.o s604 rfl) rfl
     refine s1 p610.z (okLt s612 s611) rfl fun a613 p614 s615 => ?_
     refine rN (thenN ?_)
     have s616 := p614.o (p610.o (p607.o s605 rfl) rfl) rfl
     have s617 := p614.o s612 rfl
     have s618 := p614.o (p610.o s608 rfl) rfl
     have s619 := p614.o s611 rfl
     have pg620 : Pg _ [49, 50, 51, 52] _ _ := (((((Pg.refl z583).st p603 rfl).st p607 rfl).st p610 rfl).st p614 rfl)
     refine cnd s615 (fun hb621 => ?_) (fun hb621 => ?_)
     ·replace h := (ifP hb621).symm.trans h
      refine wp_skip (thenN ?_)
      refine wp_seq ?_
      refine wp_block ?_
      refine wp_seq ?_
      refine reg ?_
      have s622 := pg620.o s587 rfl
      refine s1 pg620.z (okMv s622) rfl fun a623 p624 s625 => ?_
      have s626 := p624.o (pg620.o s589 rfl) rfl
      refine s1 p624.z (okMv s626) rfl fun a627 p628 s629 => ?_
      refine s1 p628.z (okAdd s629 cst) rfl fun a630 p631 s632 => ?_
      have s633 := p631.o (p628.o (p624.o s616 rfl) rfl) rfl
      refine s1 p631.z (okMv s633) rfl fun a634 p635 s636 => ?_
      have s637 := p635.o (p631.o (p628.o s626 rfl) rfl) rfl
      refine s1 p635.z (okMv s637) rfl fun a638 p639 s640 => ?_
      have s641 := p639.o s636 rfl
      obtain ⟨y642, hy643, h⟩ := Option.bind_eq_some_iff.1 h
      obtain ⟨b644, o645, cs646, r648, e649, nb650, k647⟩ := q592.at_ hy643
      obtain rfl := r648
      refine s1 p639.z (k647 Try.underlying28 Try.sizeOf2 s641 s640 _) rfl fun a651 p652 s653 => ?_
      refine s1 p652.z (okLd (j := 0) na2 s653 e649 rfl rfl) rfl fun a654 p655 s656 => ?_
      have s657 := p655.o (p652.o (p639.o (p635.o (p631.o (p628.o s625 rfl) rfl) rfl) rfl) rfl) rfl
      have s658 := p655.o (p652.o (p639.o (p635.o s632 rfl) rfl) rfl) rfl
      obtain ⟨t659, ht660, h⟩ := Option.bind_eq_some_iff.1 h
      refine lS (oCall p655.z Try.call21 (ag3 s657 s658 s656) (c21 (oby286 :: (ownB hpy286_0 ++ L)) w582 (⟨i564, i565⟩ : Tcell_Arena) oby24 h569 (w64 (i566 + 1)) y642 (fun i h => cx595.lt i ((List.mem_cons.1 h).elim (fun e => e ▸ (List.mem_append_right _ (.head _))) (fun h => (List.mem_append.1 h).elim (fun h => (List.mem_append_left _ h)) (fun h => (List.mem_append_right _ (.tail _ h)))))) (sepC (show ∀ x ∈ [oby24], x ∉ (ownB h569 ++ (oby286 :: (ownB hpy286_0 ++ L))) from (in1 (na n599 (nc (nmem (D371.bl (i := 0) rfl) (.head _)).symm (na (fun hb => D371.dl (i := 1) rfl _ hb (.head _)) (fun h => Nat.lt_irrefl _ (Nat.lt_of_lt_of_le (hLb _ h) (Nat.le_trans c0.g.sz (f22 _ (List.mem_append_left _ (.head _))))))))))) (sepC (show ∀ x ∈ ownB h569, x ∉ (oby286 :: (ownB hpy286_0 ++ L)) from (fun x hx => (nc (nbo n600 hx) (na ((djs n601) x hx) (n597 x hx))))) sepN)) m590 (q593.sub (fun i h => (List.mem_cons.1 h).elim (fun e => e ▸ (List.mem_append_right _ (.head _))) (fun h => (List.mem_append.1 h).elim (fun h => (List.mem_append_left _ h)) (fun h => (List.mem_append_right _ (.tail _ h)))))) _ ht660) rfl fun v664 a661 w662 hp665 p663 sp663 => ?_)
      obtain ⟨h666, rfl, q667, m668, q669, D670, lt671, g672⟩ := hp665
      have hs673 : ∀ i ∈ (oby24 :: (ownB h569 ++ [])), i ∈ ([] : List Nat) ∨ w.heap.size ≤ i := (memC (.inr (Nat.le_trans c0.g.sz (f22 _ (List.mem_append_left _ (.head _))))) (memA n598 memN))
      have hs674 : ∀ i ∈ (oby24 :: (ownB h569 ++ [])), i ∈ (ownB h569 ++ (oby24 :: (oby286 :: (ownB hpy286_0 ++ L)))) := (memC (List.mem_append_right _ (.head _)) (memA (fun _ h => (List.mem_append_left _ h)) memN))
      have t675 : Tr (ownB h569 ++ (oby24 :: (oby286 :: (ownB hpy286_0 ++ L)))) w582 (oby24 :: (ownB h569 ++ (oby286 :: (ownB hpy286_0 ++ L)))) w662 := G.tC g672 hs674 (memC (.inl (List.mem_append_right _ (.head _))) (memA (fun _ h => .inl (List.mem_append_left _ h)) (fun i h => .inl ((List.mem_append_right _ (.tail _ h))))))
      have cx676 := cx595.gs g672 hs673 lt671
      refine s1 p663.z (okAs sp663) rfl fun a677 p678 s679 => ?_
      refine rN (thenN ?_)
      refine wp_seq ?_
      refine reg ?_
      refine s1 p678.z (okMv s679) rfl fun a680 p681 s682 => ?_
      refine s1 p681.z (okENeN ef33 s682 q667 _) rfl fun a683 p684 s685 => ?_
      refine rN (thenN ?_)
      have s686 := p684.o (p681.o (p678.o (p663.o (p655.o (p652.o (p639.o (p635.o s633 rfl) rfl) rfl) rfl) rfl) rfl) rfl) rfl
      have s687 := p684.o (p681.o (p678.o (p663.o (p655.o (p652.o (p639.o s637 rfl) rfl) rfl) rfl) rfl) rfl) rfl
      have s688 := p684.o (p681.o (p678.o (p663.o s657 rfl) rfl) rfl) rfl
      have s689 := p684.o (p681.o (p678.o (p663.o (p655.o (p652.o (p639.o (p635.o (p631.o s629 rfl) rfl) rfl) rfl) rfl) rfl) rfl) rfl) rfl
      have s690 := p684.o (p681.o (p678.o (p663.o s658 rfl) rfl) rfl) rfl
      have s691 := p684.o (p681.o (p678.o (p663.o (p655.o (p652.o s641 rfl) rfl) rfl) rfl) rfl) rfl
      have s692 := p684.o (p681.o (p678.o (p663.o (p655.o (p652.o s640 rfl) rfl) rfl) rfl) rfl) rfl
      have s693 := p684.o (p681.o (p678.o (p663.o (p655.o s653 rfl) rfl) rfl) rfl) rfl
      have s694 := p684.o (p681.o (p678.o (p663.o s656 rfl) rfl) rfl) rfl
      have s695 := p684.o (p681.o (p678.o sp663 rfl) rfl) rfl
      have s696 := p684.o (p681.o s679 rfl) rfl
      have s697 := p684.o s682 rfl
      have pg698 : Pg _ [13, 55, 56, 57, 58, 59, 60, 61, 62, 63, 64] _ _ := ((((((((((((Pg.refl pg620.z).st p624 rfl).st p628 rfl).st p631 rfl).st p635 rfl).st p639 rfl).st p652 rfl).st p655 rfl).st p663 rfl).st p678 rfl).st p681 rfl).st p684 rfl)
      refine cnd s685 (fun hb699 => ?_) (fun hb699 => ?_)
      ·replace h := (ifP hb699).symm.trans h
       refine wp_seq ?_
       refine reg ?_
       refine s1 pg698.z (okAs cst) rfl fun a700 p701 s702 => ?_
       refine s1 p701.z (okAs cst) rfl fun a703 p704 s705 => ?_
       refine rN (thenN ?_)
       have s706 := p704.o s702 rfl
       obtain rfl := Option.some.inj h
       obtain rfl := Option.some.inj oh596
       exact wp_ret (blkR (thenR (thenR (jqR (blkR (thenR (ret2 p704.z Try.results8 (rvT s706) (rvT s705) ⟨_, rfl, (.pointer none), [], (.pointer none), [], rfl, ⟨rfl, rfl⟩, ⟨rfl, rfl⟩, sepN, memN, memN, (show ∀ b ∈ L, b < w662.heap.size from (fun i h => cx676.lt i (.tail _ (List.mem_append_right _ (.tail _ (List.mem_append_right _ h)))))), cx676.g⟩)))))))
      replace h := (ifN hb699).symm.trans h
      refine wp_skip (blkN (thenN ?_))
      refine reg ?_
      refine s1 pg698.z (okMv s687) rfl fun a707 p708 s709 => ?_
      refine s1 p708.z (okAdd s709 cst) rfl fun a710 p711 s712 => ?_
      refine s1 p711.z (okAs s712) rfl fun a713 p714 s715 => ?_
      have s716 := p714.o (p711.o (p708.o s686 rfl) rfl) rfl
      have s717 := p714.o (p711.o (p708.o (pg698.o (pg620.o s585 rfl) rfl) rfl) rfl) rfl
      have s718 := p714.o (p711.o (p708.o (pg698.o (pg620.o s586 rfl) rfl) rfl) rfl) rfl
      have s719 := p714.o (p711.o (p708.o (pg698.o s622 rfl) rfl) rfl) rfl
      have s720 := p714.o (p711.o (p708.o (pg698.o (pg620.o s588 rfl) rfl) rfl) rfl) rfl
      have m721 := m591.g g672 (nc (nmem (D371.bl (i := 0) rfl) (.head _)) (na n600 not_nil))
      have q722 := q592.mono t675
      have q723 := q594.tr t675 g672 (fun x hx => (nc (nbo (fun hb => D371.dl (i := 1) rfl _ hb (.head _)) hx) (na (n601 x hx) not_nil)))
      exact rN (thenN ⟨k, Nat.lt_succ_self k, t659.2.l, t659.2.most, (w64 (i566 + 1)), h569, p714.z, s716, s717, s718, s719, s720, s715, m668, m721, (q722.mono ((Tr.refl _ _).sub (fun i h => (List.mem_append.1 h).elim (fun h => (.tail _ (List.mem_append_left _ h))) (fun h => (List.mem_cons.1 h).elim (fun e => e ▸ (.head _)) (fun h => (.tail _ (List.mem_append_right _ h))))))), (q669.sub (fun i h => (List.mem_append.1 h).elim (fun h => (.tail _ (List.mem_append_left _ h))) (fun h => (List.mem_cons.1 h).elim (fun e => e ▸ (.head _)) (fun h => (.tail _ (List.mem_append_right _ h)))))), (q723.sub (fun i h => (List.mem_append.1 h).elim (fun h => (.tail _ (List.mem_append_left _ h))) (fun h => (List.mem_cons.1 h).elim (fun e => e ▸ (.head _)) (fun h => (.tail _ (List.mem_append_right _ h)))))), (cx676.sub (fun i h => (List.mem_append.1 h).elim (fun h => (.tail _ (List.mem_append_left _ h))) (fun h => (List.mem_cons.1 h).elim (fun e => e ▸ (.head _)) (fun h => (.tail _ (List.mem_append_right _ h)))))), n597, n598, n599, n600, n601, h⟩)
     replace h := (ifN hb621).symm.trans h
     obtain rfl := Option.some.inj h
     have s724 := pg620.o s585 rfl
     have s725 := pg620.o s586 rfl
     have s726 := pg620.o s587 rfl
     have s727 := pg620.o s588 rfl
     exact wp_exit (thenE (thenE (jqE ⟨_, h569, rfl, pg620.z, s724, s725, s726, s727, m590, m591, q593, q594, cx595, n597, n598, n599, n600, n601⟩)))
    clear ho568
    rintro a728 w729 ⟨g570, h571, rfl, z730, s731, s732, s733, s734, m735, m736, q737, q738, cx739, n740, n741, n742, n743, n744⟩
    refine blkE (thenN ?_)
    refine wp_seq ?_
    refine reg ?_
    refine s1 z730 (okMv s733) rfl fun a745 p746 s747 => ?_
    have s748 := p746.o s734 rfl
    refine s1 p746.z (okMv s748) rfl fun a749 p750 s751 => ?_
    have s752 := p750.o s747 rfl
    refine s1 p750.z (okAs s752) rfl fun a753 p754 s755 => ?_
    have s756 := p754.o s751 rfl
    refine s1 p754.z (okAs s756) rfl fun a757 p758 s759 => ?_
    refine rN (thenN ?_)
    have s760 := p758.o s755 rfl
    obtain rfl := Option.some.inj h
    exact wp_ret (ret2 p758.z Try.results8 (rvT s760) (rvT s759) ⟨_, rfl, (ptr oby24 0), [[oby24], ownB h571], (ptr oby286 0), [[oby286], ownB hpy286_0], rfl, ⟨oby24, h571, rfl, rfl, m735, (q737.sub (show ∀ i ∈ (oby24 :: (ownB h571 ++ (oby286 :: (ownB hpy286_0 ++ L)))), i ∈ (ownB h571 ++ (oby24 :: (oby286 :: (ownB hpy286_0 ++ L)))) from (fun i h => (List.mem_cons.1 h).elim (fun e => e ▸ (List.mem_append_right _ (.head _))) (fun h => (List.mem_append.1 h).elim (fun h => (List.mem_append_left _ h)) (fun h => (List.mem_append_right _ (.tail _ h)))))))⟩, ⟨oby286, hpy286_0, rfl, rfl, m736, (q738.sub (show ∀ i ∈ (oby24 :: (ownB h571 ++ (oby286 :: (ownB hpy286_0 ++ L)))), i ∈ (ownB h571 ++ (oby24 :: (oby286 :: (ownB hpy286_0 ++ L)))) from (fun i h => (List.mem_cons.1 h).elim (fun e => e ▸ (List.mem_append_right _ (.head _))) (fun h => (List.mem_append.1 h).elim (fun h => (List.mem_append_left _ h)) (fun h => (List.mem_append_right _ (.tail _ h)))))))⟩, (sepC (show ∀ x ∈ [oby24], x ∉ (ownB h571 ++ (oby286 :: (ownB hpy286_0 ++ L))) from (in1 (na n742 (nc (nmem (D371.bl (i := 0) rfl) (.head _)).symm (na (fun hb => D371.dl (i := 1) rfl _ hb (.head _)) (fun h => Nat.lt_irrefl _ (Nat.lt_of_lt_of_le (hLb _ h) (Nat.le_trans c0.g.sz (f22 _ (List.mem_append_left _ (.head _))))))))))) (sepC (show ∀ x ∈ ownB h571, x ∉ (oby286 :: (ownB hpy286_0 ++ L)) from (fun x hx => (nc (nbo n743 hx) (na ((djs n744) x hx) (n740 x hx))))) (sepC (show ∀ x ∈ [oby286], x ∉ (ownB hpy286_0 ++ L) from (in1 (na (D371.bo (i := 0) (j := 1) rfl rfl rfl) (fun h => Nat.lt_irrefl _ (Nat.lt_of_lt_of_le (hLb _ h) (Nat.le_trans cx244.g.sz (f284 _ (List.mem_append_left _ (.head _))))))))) (sepC (show ∀ x ∈ ownB hpy286_0, x ∉ L from (fun x hx => ((fun x hx hl => D371.dl (i := 1) rfl x hx (.tail _ (List.mem_append_right _ hl))) x hx))) sepN)))), (show ∀ x ∈ (oby24 :: (ownB h571 ++ ([] : List Nat))), w.heap.size ≤ x from (memC (Nat.le_trans c0.g.sz (f22 _ (List.mem_append_left _ (.head _)))) (memA (frO n741) memN))), (show ∀ x ∈ (oby286 :: (ownB hpy286_0 ++ ([] : List Nat))), w.heap.size ≤ x from (memC (Nat.le_trans cx244.g.sz (f284 _ (List.mem_append_left _ (.head _)))) (memA (frO (fun x hx => .inr (Nat.le_trans cx244.g.sz ((fun _ h => f284 _ (List.mem_append_right _ (List.mem_append_left _ h))) x hx)))) memN))), (show ∀ b ∈ (oby24 :: (ownB h571 ++ (oby286 :: (ownB hpy286_0 ++ L)))), b < w729.heap.size from (fun i h => cx739.lt i ((List.mem_cons.1 h).elim (fun e => e ▸ (List.mem_append_right _ (.head _))) (fun h => (List.mem_append.1 h).elim (fun h => (List.mem_append_left _ h)) (fun h => (List.mem_append_right _ (.tail _ h))))))), cx739.g⟩)
   replace h := (ifN hb492).symm.trans h
   refine wp_skip (thenN ?_)
   refine wp_seq ?_
   refine wp_seq ?_
   refine reg ?_
   refine s1 pg491.z (okAs cst) rfl fun a761 p762 s763 => ?_
   refine rN (thenN ?_)
   refine wp_block ?_
   obtain ⟨o767, ho768, h⟩ := Option.bind_eq_some_iff.1 h
   have s772 := p762.o (pg491.o s480 rfl) rfl
   have s773 := p762.o (pg491.o s467 rfl) rfl
   have s774 := p762.o (pg491.o s468 rfl) rfl
   have s775 := p762.o (pg491.o s469 rfl) rfl
   have s776 := p762.o (pg491.o s470 rfl) rfl
   have m777 := q237.g0 g283
   have q778 := q246.t0 t375 g283
   refine loopX (I := (fun k' a' w' => ∃ i764 i765 i766 h769, Z Try.f8.ntmps a' ∧ a'.eval (.tmp 0) = hp0 ∧ a'.eval (.tmp 4) = .pointer none ∧ a'.eval (.tmp 5) = .pointer none ∧ a'.eval (.tmp 6) = ptr oby24 0 ∧ a'.eval (.tmp 8) = ptr oby286 0 ∧ a'.eval (.tmp 12) = .int .i64 i766 ∧ Bk w' oby24 (Tcell_Arena.C (⟨i764, i765⟩ : Tcell_Arena) h769) 72 ∧ Bk w' oby286 (Tpermit_Table.C y286 hpy286_0) 78 ∧ RdS (KInt .i64) (ownB h769 ++ (oby286 :: (ownB hpy286_0 ++ (oby24 :: L)))) w' hp0 x0 ∧ OwnS (KInt .i64) 2 (ownB h769 ++ (oby286 :: (ownB hpy286_0 ++ (oby24 :: L)))) w' h769 i764 ∧ OwnS KTPark 59 (ownB h769 ++ (oby286 :: (ownB hpy286_0 ++ (oby24 :: L)))) w' hpy286_0 y286.l ∧ Cx ([] : List Nat) w (ownB h769 ++ (oby286 :: (ownB hpy286_0 ++ (oby24 :: L)))) w' ∧ (∀ x ∈ ownB h769, x ∉ L) ∧ (∀ x ∈ ownB h769, x ∈ ([] : List Nat) ∨ w.heap.size ≤ x) ∧ oby24 ∉ ownB h769 ∧ oby286 ∉ ownB h769 ∧ (∀ x ∈ ownB hpy286_0, x ∉ ownB h769) ∧ tholelaw09_made.l1 x0 k' i764 i765 i766 = some o767)) 0 (fun a' w' => ∃ g770 h771, o767 = .go g770 ∧ Z Try.f8.ntmps a' ∧ a'.eval (.tmp 4) = .pointer none ∧ a'.eval (.tmp 5) = .pointer none ∧ a'.eval (.tmp 6) = ptr oby24 0 ∧ a'.eval (.tmp 8) = ptr oby286 0 ∧ Bk w' oby24 (Tcell_Arena.C (⟨g770.1, g770.2⟩ : Tcell_Arena) h771) 72 ∧ Bk w' oby286 (Tpermit_Table.C y286 hpy286_0) 78 ∧ OwnS (KInt .i64) 2 (ownB h771 ++ (oby286 :: (ownB hpy286_0 ++ (oby24 :: L)))) w' h771 g770.1 ∧ OwnS KTPark 59 (ownB h771 ++ (oby286 :: (ownB hpy286_0 ++ (oby24 :: L)))) w' hpy286_0 y286.l ∧ Cx ([] : List Nat) w (ownB h771 ++ (oby286 :: (ownB hpy286_0 ++ (oby24 :: L)))) w' ∧ (∀ x ∈ ownB h771, x ∉ L) ∧ (∀ x ∈ ownB h771, x ∈ ([] : List Nat) ∨ w.heap.size ≤ x) ∧ oby24 ∉ ownB h771 ∧ oby286 ∉ ownB h771 ∧ (∀ x ∈ ownB hpy286_0, x ∉ ownB h771)) ⟨y24.l, y24.most, 0, hpy24_0, p762.z, s772, s773, s774, s775, s776, s763, m777, q369, (q484.mono ((Tr.refl _ _).sub (fun i h => (List.mem_append.1 h).elim (fun h => (.tail _ (List.mem_append_right _ (.tail _ (List.mem_append_left _ h))))) (fun h => (List.mem_cons.1 h).elim (fun e => e ▸ (.head _)) (fun h => (List.mem_append.1 h).elim (fun h => (.tail _ (List.mem_append_left _ h))) (fun h => (List.mem_cons.1 h).elim (fun e => e ▸ (.tail _ (List.mem_append_right _ (.head _)))) (fun h => (.tail _ (List.mem_append_right _ (.tail _ (List.mem_append_right _ h))))))))))), (q778.sub (fun i h => (List.mem_append.1 h).elim (fun h => (.tail _ (List.mem_append_right _ (.tail _ (List.mem_append_left _ h))))) (fun h => (List.mem_cons.1 h).elim (fun e => e ▸ (.head _)) (fun h => (List.mem_append.1 h).elim (fun h => (.tail _ (List.mem_append_left _ h))) (fun h => (List.mem_cons.1 h).elim (fun e => e ▸ (.tail _ (List.mem_append_right _ (.head _)))) (fun h => (.tail _ (List.mem_append_right _ (.tail _ (List.mem_append_right _ h)))))))))), (q378.sub (fun i h => (List.mem_append.1 h).elim (fun h => (.tail _ (List.mem_append_right _ (.tail _ (List.mem_append_left _ h))))) (fun h => (List.mem_cons.1 h).elim (fun e => e ▸ (.head _)) (fun h => (List.mem_append.1 h).elim (fun h => (.tail _ (List.mem_append_left _ h))) (fun h => (List.mem_cons.1 h).elim (fun e => e ▸ (.tail _ (List.mem_append_right _ (.head _)))) (fun h => (.tail _ (List.mem_append_right _ (.tail _ (List.mem_append_right _ h)))))))))), (cx376.sub (fun i h => (List.mem_append.1 h).elim (fun h => (.tail _ (List.mem_append_right _ (.tail _ (List.mem_append_left _ h))))) (fun h => (List.mem_cons.1 h).elim (fun e => e ▸ (.head _)) (fun h => (List.mem_append.1 h).elim (fun h => (.tail _ (List.mem_append_left _ h))) (fun h => (List.mem_cons.1 h).elim (fun e => e ▸ (.tail _ (List.mem_append_right _ (.head _)))) (fun h => (.tail _ (List.mem_append_right _ (.tail _ (List.mem_append_right _ h)))))))))), (fun x hx hl => D239.dl (i := 1) rfl x hx hl), (fun x hx => .inr (Nat.le_trans c0.g.sz ((fun _ h => f22 _ (List.mem_append_right _ (List.mem_append_left _ h))) x hx))), (D239.bo (i := 0) (j := 1) rfl rfl rfl), (fun hk => D371.bl (i := 0) rfl (.tail _ (List.mem_append_left _ hk))), (fun x hx hk => D371.dl (i := 1) rfl x hx (.tail _ (List.mem_append_left _ hk))), ho768⟩ ?_ ?_
   ·have oh795 := h; clear h ho768
    rintro k779 a780 w781 ⟨i764, i765, i766, h769, z782, s783, s784, s785, s786, s787, s788, m789, m790, q791, q792, q793, cx794, n796, n797, n798, n799, n800, h⟩
    obtain _ | k := k779
    case zero => cases h
    rw [tholelaw09_made.l1] at h
    refine wp_seq ?_
    refine wp_seq ?_
    refine reg ?_
    refine s1 z782 (okMv s788) rfl fun a801 p802 s803 => ?_
    have s804 := p802.o s783 rfl
    refine s1 p802.z (okMv s804) rfl fun a805 p806 s807 => ?_
    refine s1 p806.z (okLenR Try.underlying28 s807 q791) rfl fun a808 p809 s810 => ?_
    have s811 := p809.o (p806.o s803 rfl) rfl
    refine s1 p809.z (okLt s811 s810) rfl fun a812 p813 s814 => ?_
    refine rN (thenN ?_)
    have s815 := p813.o (p809.o (p806.o s804 rfl) rfl) rfl
    have s816 := p813.o s811 rfl
    have s817 := p813.o (p809.o s807 rfl) rfl
    have s818 := p813.o s810 rfl
    have pg819 : Pg _ [49, 50, 51, 52] _ _ := (((((Pg.refl z782).st p802 rfl).st p806 rfl).st p809 rfl).st p813 rfl)
    refine cnd s814 (fun hb820 => ?_) (fun hb820 => ?_)
    ·replace h := (ifP hb820).symm.trans h
     refine wp_skip (thenN ?_)
     refine wp_seq ?_
     refine wp_block ?_
     refine wp_seq ?_
     refine reg ?_
     have s821 := pg819.o s786 rfl
     refine s1 pg819.z (okMv s821) rfl fun a822 p823 s824 => ?_
     have s825 := p823.o (pg819.o s788 rfl) rfl
     refine s1 p823.z (okMv s825) rfl fun a826 p827 s828 => ?_
     refine s1 p827.z (okAdd s828 cst) rfl fun a829 p830 s831 => ?_
     have s832 := p830.o (p827.o (p823.o s815 rfl) rfl) rfl
     refine s1 p830.z (okMv s832) rfl fun a833 p834 s835 => ?_
     have s836 := p834.o (p830.o (p827.o s825 rfl) rfl) rfl
     refine s1 p834.z (okMv s836) rfl fun a837 p838 s839 => ?_
     have s840 := p838.o s835 rfl
     obtain ⟨y841, hy842, h⟩ := Option.bind_eq_some_iff.1 h
     obtain ⟨b843, o844, cs845, r847, e848, nb849, k846⟩ := q791.at_ hy842
     obtain rfl := r847
     refine s1 p838.z (k846 Try.underlying28 Try.sizeOf2 s840 s839 _) rfl fun a850 p851 s852 => ?_
     refine s1 p851.z (okLd (j := 0) na2 s852 e848 rfl rfl) rfl fun a853 p854 s855 => ?_
     have s856 := p854.o (p851.o (p838.o (p834.o (p830.o (p827.o s824 rfl) rfl) rfl) rfl) rfl) rfl
     have s857 := p854.o (p851.o (p838.o (p834.o s831 rfl) rfl) rfl) rfl
     obtain ⟨t858, ht859, h⟩ := Option.bind_eq_some_iff.1 h
     refine lS (oCall p854.z Try.call21 (ag3 s856 s857 s855) (c21 (oby286 :: (ownB hpy286_0 ++ L)) w781 (⟨i764, i765⟩ : Tcell_Arena) oby24 h769 (w64 (i766 + 1)) y841 (fun i h => cx794.lt i ((List.mem_cons.1 h).elim (fun e => e ▸ (List.mem_append_right _ (.tail _ (List.mem_append_right _ (.head _))))) (fun h => (List.mem_append.1 h).elim (fun h => (List.mem_append_left _ h)) (fun h => (List.mem_cons.1 h).elim (fun e => e ▸ (List.mem_append_right _ (.head _))) (fun h => (List.mem_append.1 h).elim (fun h => (List.mem_append_right _ (.tail _ (List.mem_append_left _ h)))) (fun h => (List.mem_append_right _ (.tail _ (List.mem_append_right _ (.tail _ h)))))))))) (sepC (show ∀ x ∈ [oby24], x ∉ (ownB h769 ++ (oby286 :: (ownB hpy286_0 ++ L))) from (in1 (na n798 (nc (nmem (D371.bl (i := 0) rfl) (.head _)).symm (na (fun hb => D371.dl (i := 1) rfl _ hb (.head _)) (fun h => Nat.lt_irrefl _ (Nat.lt_of_lt_of_le (hLb _ h) (Nat.le_trans c0.g.sz (f22 _ (List.mem_append_left _ (.head _))))))))))) (sepC (show ∀ x ∈ ownB h769, x ∉ (oby286 :: (ownB hpy286_0 ++ L)) from (fun x hx => (nc (nbo n799 hx) (na ((djs n800) x hx) (n796 x hx))))) sepN)) m789 (q792.sub (fun i h => (List.mem_cons.1 h).elim (fun e => e ▸ (List.mem_append_right _ (.tail _ (List.mem_append_right _ (.head _))))) (fun h => (List.mem_append.1 h).elim (fun h => (List.mem_append_left _ h)) (fun h => (List.mem_cons.1 h).elim (fun e => e ▸ (List.mem_append_right _ (.head _))) (fun h => (List.mem_append.1 h).elim (fun h => (List.mem_append_right _ (.tail _ (List.mem_append_left _ h)))) (fun h => (List.mem_append_right _ (.tail _ (List.mem_append_right _ (.tail _ h)))))))))) _ ht859) rfl fun v863 a860 w861 hp864 p862 sp862 => ?_)
     obtain ⟨h865, rfl, q866, m867, q868, D869, lt870, g871⟩ := hp864
     have hs872 : ∀ i ∈ (oby24 :: (ownB h769 ++ [])), i ∈ ([] : List Nat) ∨ w.heap.size ≤ i := (memC (.inr (Nat.le_trans c0.g.sz (f22 _ (List.mem_append_left _ (.head _))))) (memA n797 memN))
     have hs873 : ∀ i ∈ (oby24 :: (ownB h769 ++ [])), i ∈ (ownB h769 ++ (oby286 :: (ownB hpy286_0 ++ (oby24 :: L)))) := (memC (List.mem_append_right _ (.tail _ (List.mem_append_right _ (.head _)))) (memA (fun _ h => (List.mem_append_left _ h)) memN))
     have t874 : Tr (ownB h769 ++ (oby286 :: (ownB hpy286_0 ++ (oby24 :: L)))) w781 (oby24 :: (ownB h769 ++ (oby286 :: (ownB hpy286_0 ++ L)))) w861 := G.tC g871 hs873 (memC (.inl (List.mem_append_right _ (.tail _ (List.mem_append_right _ (.head _))))) (memA (fun _ h => .inl (List.mem_append_left _ h)) (fun i h => .inl ((List.mem_cons.1 h).elim (fun e => e ▸ (List.mem_append_right _ (.head _))) (fun h => (List.mem_append.1 h).elim (fun h => (List.mem_append_right _ (.tail _ (List.mem_append_left _ h)))) (fun h => (List.mem_append_right _ (.tail _ (List.mem_append_right _ (.tail _ h))))))))))
     have cx875 := cx794.gs g871 hs872 lt870
     refine s1 p862.z (okAs sp862) rfl fun a876 p877 s878 => ?_
     refine rN (thenN ?_)
     refine wp_seq ?_
     refine reg ?_
     refine s1 p877.z (okMv s878) rfl fun a879 p880 s881 => ?_
     refine s1 p880.z (okENeN ef33 s881 q866 _) rfl fun a882 p883 s884 => ?_
     refine rN (thenN ?_)
     have s885 := p883.o (p880.o (p877.o (p862.o (p854.o (p851.o (p838.o (p834.o s832 rfl) rfl) rfl) rfl) rfl) rfl) rfl) rfl
     have s886 := p883.o (p880.o (p877.o (p862.o (p854.o (p851.o (p838.o s836 rfl) rfl) rfl) rfl) rfl) rfl) rfl
     have s887 := p883.o (p880.o (p877.o (p862.o s856 rfl) rfl) rfl) rfl
     have s888 := p883.o (p880.o (p877.o (p862.o (p854.o (p851.o (p838.o (p834.o (p830.o s828 rfl) rfl) rfl) rfl) rfl) rfl) rfl) rfl) rfl
     have s889 := p883.o (p880.o (p877.o (p862.o s857 rfl) rfl) rfl) rfl
     have s890 := p883.o (p880.o (p877.o (p862.o (p854.o (p851.o s840 rfl) rfl) rfl) rfl) rfl) rfl
     have s891 := p883.o (p880.o (p877.o (p862.o (p854.o (p851.o s839 rfl) rfl) rfl) rfl) rfl) rfl
     have s892 := p883.o (p880.o (p877.o (p862.o (p854.o s852 rfl) rfl) rfl) rfl) rfl
     have s893 := p883.o (p880.o (p877.o (p862.o s855 rfl) rfl) rfl) rfl
     have s894 := p883.o (p880.o (p877.o sp862 rfl) rfl) rfl
     have s895 := p883.o (p880.o s878 rfl) rfl
     have s896 := p883.o s881 rfl
     have pg897 : Pg _ [13, 55, 56, 57, 58, 59, 60, 61, 62, 63, 64] _ _ := ((((((((((((Pg.refl pg819.z).st p823 rfl).st p827 rfl).st p830 rfl).st p834 rfl).st p838 rfl).st p851 rfl).st p854 rfl).st p862 rfl).st p877 rfl).st p880 rfl).st p883 rfl)
     refine cnd s884 (fun hb898 => ?_) (fun hb898 => ?_)
     ·replace h := (ifP hb898).symm.trans h
      refine wp_seq ?_
      refine reg ?_
      refine s1 pg897.z (okAs cst) rfl fun a899 p900 s901 => ?_
      refine s1 p900.z (okAs cst) rfl fun a902 p903 s904 => ?_
      refine rN (thenN ?_)
      have s905 := p903.o s901 rfl
      obtain rfl := Option.some.inj h
      obtain rfl := Option.some.inj oh795
      exact wp_ret (blkR (thenR (thenR (jqR (blkR (thenR (ret2 p903.z Try.results8 (rvT s905) (rvT s904) ⟨_, rfl, (.pointer none), [], (.pointer none), [], rfl, ⟨rfl, rfl⟩, ⟨rfl, rfl⟩, sepN, memN, memN, (show ∀ b ∈ L, b < w861.heap.size from (fun i h => cx875.lt i (.tail _ (List.mem_append_right _ (.tail _ (List.mem_append_right _ h)))))), cx875.g⟩)))))))
     replace h := (ifN hb898).symm.trans h
     refine wp_skip (blkN (thenN ?_))
     refine reg ?_
     refine s1 pg897.z (okMv s886) rfl fun a906 p907 s908 => ?_
     refine s1 p907.z (okAdd s908 cst) rfl fun a909 p910 s911 => ?_
     refine s1 p910.z (okAs s911) rfl fun a912 p913 s914 => ?_
     have s915 := p913.o (p910.o (p907.o s885 rfl) rfl) rfl
     have s916 := p913.o (p910.o (p907.o (pg897.o (pg819.o s784 rfl) rfl) rfl) rfl) rfl
     have s917 := p913.o (p910.o (p907.o (pg897.o (pg819.o s785 rfl) rfl) rfl) rfl) rfl
     have s918 := p913.o (p910.o (p907.o (pg897.o s821 rfl) rfl) rfl) rfl
     have s919 := p913.o (p910.o (p907.o (pg897.o (pg819.o s787 rfl) rfl) rfl) rfl) rfl
     have m920 := m790.g g871 (nc (nmem (D371.bl (i := 0) rfl) (.head _)) (na n799 not_nil))
     have q921 := q791.mono t874
     have q922 := q793.tr t874 g871 (fun x hx => (nc (nbo (fun hb => D371.dl (i := 1) rfl _ hb (.head _)) hx) (na (n800 x hx) not_nil)))
     exact rN (thenN ⟨k, Nat.lt_succ_self k, t858.2.l, t858.2.most, (w64 (i766 + 1)), h769, p913.z, s915, s916, s917, s918, s919, s914, m867, m920, (q921.mono ((Tr.refl _ _).sub (fun i h => (List.mem_append.1 h).elim (fun h => (.tail _ (List.mem_append_left _ h))) (fun h => (List.mem_cons.1 h).elim (fun e => e ▸ (.tail _ (List.mem_append_right _ (.head _)))) (fun h => (List.mem_append.1 h).elim (fun h => (.tail _ (List.mem_append_right _ (.tail _ (List.mem_append_left _ h))))) (fun h => (List.mem_cons.1 h).elim (fun e => e ▸ (.head _)) (fun h => (.tail _ (List.mem_append_right _ (.tail _ (List.mem_append_right _ h))))))))))), (q868.sub (fun i h => (List.mem_append.1 h).elim (fun h => (.tail _ (List.mem_append_left _ h))) (fun h => (List.mem_cons.1 h).elim (fun e => e ▸ (.tail _ (List.mem_append_right _ (.head _)))) (fun h => (List.mem_append.1 h).elim (fun h => (.tail _ (List.mem_append_right _ (.tail _ (List.mem_append_left _ h))))) (fun h => (List.mem_cons.1 h).elim (fun e => e ▸ (.head _)) (fun h => (.tail _ (List.mem_append_right _ (.tail _ (List.mem_append_right _ h)))))))))), (q922.sub (fun i h => (List.mem_append.1 h).elim (fun h => (.tail _ (List.mem_append_left _ h))) (fun h => (List.mem_cons.1 h).elim (fun e => e ▸ (.tail _ (List.mem_append_right _ (.head _)))) (fun h => (List.mem_append.1 h).elim (fun h => (.tail _ (List.mem_append_right _ (.tail _ (List.mem_append_left _ h))))) (fun h => (List.mem_cons.1 h).elim (fun e => e ▸ (.head _)) (fun h => (.tail _ (List.mem_append_right _ (.tail _ (List.mem_append_right _ h)))))))))), (cx875.sub (fun i h => (List.mem_append.1 h).elim (fun h => (.tail _ (List.mem_append_left _ h))) (fun h => (List.mem_cons.1 h).elim (fun e => e ▸ (.tail _ (List.mem_append_right _ (.head _)))) (fun h => (List.mem_append.1 h).elim (fun h => (.tail _ (List.mem_append_right _ (.tail _ (List.mem_append_left _ h))))) (fun h => (List.mem_cons.1 h).elim (fun e => e ▸ (.head _)) (fun h => (.tail _ (List.mem_append_right _ (.tail _ (List.mem_append_right _ h)))))))))), n796, n797, n798, n799, n800, h⟩)
    replace h := (ifN hb820).symm.trans h
    obtain rfl := Option.some.inj h
    have s923 := pg819.o s784 rfl
    have s924 := pg819.o s785 rfl
    have s925 := pg819.o s786 rfl
    have s926 := pg819.o s787 rfl
    exact wp_exit (thenE (thenE (jqE ⟨_, h769, rfl, pg819.z, s923, s924, s925, s926, m789, m790, q792, q793, cx794, n796, n797, n798, n799, n800⟩)))
   clear ho768
   rintro a927 w928 ⟨g770, h771, rfl, z929, s930, s931, s932, s933, m934, m935, q936, q937, cx938, n939, n940, n941, n942, n943⟩
   refine blkE (thenN ?_)
   refine wp_seq ?_
   refine reg ?_
   refine s1 z929 (okMv s932) rfl fun a944 p945 s946 => ?_
   have s947 := p945.o s933 rfl
   refine s1 p945.z (okMv s947) rfl fun a948 p949 s950 => ?_
   have s951 := p949.o s946 rfl
   refine s1 p949.z (okAs s951) rfl fun a952 p953 s954 => ?_
   have s955 := p953.o s950 rfl
   refine s1 p953.z (okAs s955) rfl fun a956 p957 s958 => ?_
   refine rN (thenN ?_)
   have s959 := p957.o s954 rfl
   obtain rfl := Option.some.inj h
   exact wp_ret (ret2 p957.z Try.results8 (rvT s959) (rvT s958) ⟨_, rfl, (ptr oby24 0), [[oby24], ownB h771], (ptr oby286 0), [[oby286], ownB hpy286_0], rfl, ⟨oby24, h771, rfl, rfl, m934, (q936.sub (show ∀ i ∈ (oby24 :: (ownB h771 ++ (oby286 :: (ownB hpy286_0 ++ L)))), i ∈ (ownB h771 ++ (oby286 :: (ownB hpy286_0 ++ (oby24 :: L)))) from (fun i h => (List.mem_cons.1 h).elim (fun e => e ▸ (List.mem_append_right _ (.tail _ (List.mem_append_right _ (.head _))))) (fun h => (List.mem_append.1 h).elim (fun h => (List.mem_append_left _ h)) (fun h => (List.mem_cons.1 h).elim (fun e => e ▸ (List.mem_append_right _ (.head _))) (fun h => (List.mem_append.1 h).elim (fun h => (List.mem_append_right _ (.tail _ (List.mem_append_left _ h)))) (fun h => (List.mem_append_right _ (.tail _ (List.mem_append_right _ (.tail _ h)))))))))))⟩, ⟨oby286, hpy286_0, rfl, rfl, m935, (q937.sub (show ∀ i ∈ (oby24 :: (ownB h771 ++ (oby286 :: (ownB hpy286_0 ++ L)))), i ∈ (ownB h771 ++ (oby286 :: (ownB hpy286_0 ++ (oby24 :: L)))) from (fun i h => (List.mem_cons.1 h).elim (fun e => e ▸ (List.mem_append_right _ (.tail _ (List.mem_append_right _ (.head _))))) (fun h => (List.mem_append.1 h).elim (fun h => (List.mem_append_left _ h)) (fun h => (List.mem_cons.1 h).elim (fun e => e ▸ (List.mem_append_right _ (.head _))) (fun h => (List.mem_append.1 h).elim (fun h => (List.mem_append_right _ (.tail _ (List.mem_append_left _ h)))) (fun h => (List.mem_append_right _ (.tail _ (List.mem_append_right _ (.tail _ h)))))))))))⟩, (sepC (show ∀ x ∈ [oby24], x ∉ (ownB h771 ++ (oby286 :: (ownB hpy286_0 ++ L))) from (in1 (na n941 (nc (nmem (D371.bl (i := 0) rfl) (.head _)).symm (na (fun hb => D371.dl (i := 1) rfl _ hb (.head _)) (fun h => Nat.lt_irrefl _ (Nat.lt_of_lt_of_le (hLb _ h) (Nat.le_trans c0.g.sz (f22 _ (List.mem_append_left _ (.head _))))))))))) (sepC (show ∀ x ∈ ownB h771, x ∉ (oby286 :: (ownB hpy286_0 ++ L)) from (fun x hx => (nc (nbo n942 hx) (na ((djs n943) x hx) (n939 x hx))))) (sepC (show ∀ x ∈ [oby286], x ∉ (ownB hpy286_0 ++ L) from (in1 (na (D371.bo (i := 0) (j := 1) rfl rfl rfl) (fun h => Nat.lt_irrefl _ (Nat.lt_of_lt_of_le (hLb _ h) (Nat.le_trans cx244.g.sz (f284 _ (List.mem_append_left _ (.head _))))))))) (sepC (show ∀ x ∈ ownB hpy286_0, x ∉ L from (fun x hx => ((fun x hx hl => D371.dl (i := 1) rfl x hx (.tail _ (List.mem_append_right _ hl))) x hx))) sepN)))), (show ∀ x ∈ (oby24 :: (ownB h771 ++ ([] : List Nat))), w.heap.size ≤ x from (memC (Nat.le_trans c0.g.sz (f22 _ (List.mem_append_left _ (.head _)))) (memA (frO n940) memN))), (show ∀ x ∈ (oby286 :: (ownB hpy286_0 ++ ([] : List Nat))), w.heap.size ≤ x from (memC (Nat.le_trans cx244.g.sz (f284 _ (List.mem_append_left _ (.head _)))) (memA (frO (fun x hx => .inr (Nat.le_trans cx244.g.sz ((fun _ h => f284 _ (List.mem_append_right _ (List.mem_append_left _ h))) x hx)))) memN))), (show ∀ b ∈ (oby24 :: (ownB h771 ++ (oby286 :: (ownB hpy286_0 ++ L)))), b < w928.heap.size from (fun i h => cx938.lt i ((List.mem_cons.1 h).elim (fun e => e ▸ (List.mem_append_right _ (.tail _ (List.mem_append_right _ (.head _))))) (fun h => (List.mem_append.1 h).elim (fun h => (List.mem_append_left _ h)) (fun h => (List.mem_cons.1 h).elim (fun e => e ▸ (List.mem_append_right _ (.head _))) (fun h => (List.mem_append.1 h).elim (fun h => (List.mem_append_right _ (.tail _ (List.mem_append_left _ h)))) (fun h => (List.mem_append_right _ (.tail _ (List.mem_append_right _ (.tail _ h))))))))))), cx938.g⟩)

set_option maxHeartbeats 4000000 in
set_option maxRecDepth 100000 in
theorem c12 (L : List Nat) (w : World) (hL : ∀ b ∈ L, b < w.heap.size) (x0 : Int) (x1 : List Int) (h1 : Value) (qh1 : RdS (KInt .i64) L w h1 x1) (r : (List TFrame)) (h : micro_Start x0 x1 = some r) : Calls Try.prog 12 #[.int .i64 x0, h1] w (fun e w' => ∃ v, e = .returned v ∧ RdS KTFrame L w' v r ∧ G [] w w') := by
 refine enterF Try.func12 rfl rfl fun a0 z0 A => ?_
 have s0_0 := A 0 (.int .i64 x0) rfl
 have s0_1 := A 1 (h1) rfl
 clear A
 have c0 : Cx [] w L w := ⟨G.refl _ _, hL⟩
 unfold micro_Start at h
 refine wp_seq ?_
 refine reg ?_
 refine s1 z0 (okAs cst) rfl fun a1 p2 s3 => ?_
 refine rN (thenN ?_)
 refine wp_seq ?_
 refine reg ?_
 have s4 := p2.o s0_0 rfl
 refine s1 p2.z (okMv s4) rfl fun a5 p6 s7 => ?_
 refine s1 p6.z (okBd (pb1 s7) (bd66_0 x0 _)) rfl fun a8 p9 s10 => ?_
 refine lS (oAlloc zv66 p9.z rfl fun a11 w12 b13 p14 sp14 m15 g16 e17 => ?_)
 have f19 := c0.nw e17
 have cx18 := c0.al g16 m15
 have s20 := p14.o s10 rfl
 refine lS (oStoW (cs := TFrame.C (⟨x0, Arr16.zero⟩ : TFrame)) p14.z sp14 s20 m15 Try.sizeOf66 rfl (TFrame.C_one _) rfl fun w21 m22 g23 => ?_)
 have cx24 := cx18.st g23 f19
 refine rN (thenN ?_)
 refine wp_seq ?_
 refine reg ?_
 refine s1 p14.z (okFA (o' := 1) fo66_1 sp14 rfl) rfl fun a25 p26 s27 => ?_
 refine s1 p26.z (okASl Try.underlying64 Try.sizeOf2 s27 _) rfl fun a28 p29 s30 => ?_
 have s31 := p29.o (p26.o (p14.o (p9.o (p6.o (p2.o s0_1 rfl) rfl) rfl) rfl) rfl) rfl
 refine s1 p29.z (okMv s31) rfl fun a32 p33 s34 => ?_
 have s35 := p33.o s30 rfl
 have q36 := qh1.mono ((g16.tA (Nat.le_of_eq e17.symm)).trans (g23.t1 (.head _)))
 refine lS (oCpA (l' := TFrame.C (⟨x0, Arr16.zero.copy x1⟩ : TFrame)) Try.underlying28 Try.sizeOf2 p33.z s35 s34 q36.src m22 rfl (TFrame.C_r_copy _ _) rfl fun a37 w38 p39 sp39 m40 g41 => ?_)
 have cx42 := cx24.st g41 f19
 refine rN (thenN ?_)
 refine wp_seq ?_
 refine reg ?_
 have s43 := p39.o (p33.o (p29.o (p26.o sp14 rfl) rfl) rfl) rfl
 refine s1 p39.z (okLdA ag66 s43 (m40.cl) rfl rfl whole) rfl fun a44 p45 s46 => ?_
 refine lS (oBS (K := KTFrame) (L := (b13 :: L)) (xs := [(⟨x0, Arr16.zero.copy x1⟩ : TFrame)]) (C := [TFrame.C (⟨x0, Arr16.zero.copy x1⟩ : TFrame)]) p45.z (pb1 s46) (bs30_1_0 (⟨x0, Arr16.zero.copy x1⟩ : TFrame)) rfl rfl (all2C rfl all2N) rfl rfl fun a47 v48 w49 p50 sp50 q51 g52 f53 => ?_)
 have f54 := frN f53
 have nb55 := nbA hL cx42.g.sz (fun _ h => nilO h) f54
 have sf56 := sfA (S := []) cx42.g.sz (fun _ h => nilO h) f54
 have n57 := m40.no (fun h => nilO h) f54
 have cx58 := cx42.ap g52 (fun _ h => nilO h) q51
 refine s1 p50.z (okAs sp50) rfl fun a59 p60 s61 => ?_
 refine rN (thenN ?_)
 obtain rfl := Option.some.inj h
 exact wp_ret (ret1 p60.z Try.results12 (rvT s61) ⟨_, rfl, (q51.rd (fun i h => (List.mem_append_right _ (.tail _ h))) nb55), cx58.g⟩)

set_option maxHeartbeats 4000000 in
set_option maxRecDepth 100000 in
theorem c10_n2 (L : List Nat) (w : World) (x0 : List TIns) (hp0 : Value) (x1 : Tcell_Arena) (ob1 : Nat) (hp1_0 : Value) (x3 : Int) (x4 : List TFrame) (hp4 : Value) (hL : ∀ b ∈ (ob1 :: (ownB hp1_0 ++ L)), b < w.heap.size) (D : Sep [[ob1], ownB hp1_0] L) (qhp0 : RdS KTIns (ob1 :: (ownB hp1_0 ++ L)) w hp0 x0) (mob1 : Bk w ob1 (Tcell_Arena.C x1 hp1_0) 72) (qhp1_0 : OwnS (KInt .i64) 2 (ob1 :: (ownB hp1_0 ++ L)) w hp1_0 x1.l) (qhp4 : RdS KTFrame (ob1 :: (ownB hp1_0 ++ L)) w hp4 x4) (r : (List TFrame) × (List TNote) × Int × Int × Er) (h : micro_Step_n2 x0 x1 x3 x4 = some r) : Calls Try.prog 10 #[hp0, ptr ob1 0, .pointer none, .int .i64 x3, hp4] w (fun e w' => ∃ v, e = .returned v ∧ ∃ u0_0 u1_0 u4_0, v = .tuple #[u0_0, u1_0, .int .i64 r.2.2.1, .int .i64 r.2.2.2.1, u4_0] ∧ RdS KTFrame (ob1 :: (ownB hp1_0 ++ L)) w' u0_0 r.1 ∧ RdS KTNote (ob1 :: (ownB hp1_0 ++ L)) w' u1_0 r.2.1 ∧ ErG 36 0 (ob1 :: (ownB hp1_0 ++ L)) w' u4_0 r.2.2.2.2 ∧ G ([] : List Nat) w w') := by
 refine enterF Try.func10 rfl rfl fun a0 z0 A => ?_
 have s0_0 := A 0 (hp0) rfl
 have s0_1 := A 1 (ptr ob1 0) rfl
 have s0_2 := A 2 (.pointer none) rfl
 have s0_3 := A 3 (.int .i64 x3) rfl
 have s0_4 := A 4 (hp4) rfl
 clear A
 have hLb : ∀ b ∈ L, b < w.heap.size := fun b h => hL b (.tail _ (List.mem_append_right _ h))
 have c0 : Cx ([] : List Nat) w (ob1 :: (ownB hp1_0 ++ L)) w := ⟨G.refl _ _, hL⟩
 unfold micro_Step_n2 at h
 refine wp_seq ?_
 refine reg ?_
 refine s1 z0 (okAs cst) rfl fun a1 p2 s3 => ?_
 refine s1 p2.z (okAs cst) rfl fun a4 p5 s6 => ?_
 refine s1 p5.z (okAs cst) rfl fun a7 p8 s9 => ?_
 refine s1 p8.z (okAs cst) rfl fun a10 p11 s12 => ?_
 refine s1 p11.z (okAs cst) rfl fun a13 p14 s15 => ?_
 refine rN (thenN ?_)
 refine scopeX 0 rfl ?_
 refine wp_seq ?_
 refine wp_seq ?_
 refine reg ?_
 have s16 := p14.o (p11.o (p8.o (p5.o (p2.o s0_1 rfl) rfl) rfl) rfl) rfl
 refine s1 p14.z (okMv s16) rfl fun a17 p18 s19 => ?_
 refine s1 p18.z (okPEq Try.underlying24 s19 cst) rfl fun a20 p21 s22 => ?_
 refine s1 p21.z (okMv s22) rfl fun a23 p24 s25 => ?_
 have s26 := p24.o (p21.o (p18.o (p14.o (p11.o (p8.o (p5.o (p2.o s0_2 rfl) rfl) rfl) rfl) rfl) rfl) rfl) rfl
 refine s1g p24.z (okMv s26) rfl (yd p24.z rfl rfl s25) fun a27 p28 s29 => ?_
 have s30 := p28.o s25 rfl
 refine s1g p28.z (okNEq Try.underlying25 s29 cst) rfl (yd p28.z rfl rfl s30) fun a31 p32 s33 => ?_
 have s34 := p32.o s30 rfl
 refine s1 p32.z (okPickF s34 s33) rfl fun a35 p36 s37 => ?_
 refine s1 p36.z (okMv s37) rfl fun a38 p39 s40 => ?_
 refine s1k p39.z rfl (yd p39.z rfl rfl s40) rfl fun a41 p42 s43 => ?_
 have s44 := p42.o s40 rfl
 refine s1k p42.z rfl (yd p42.z rfl rfl s44) rfl fun a45 p46 s47 => ?_
 have s48 := p46.o s44 rfl
 refine s1k p46.z rfl (yd p46.z rfl rfl s48) rfl fun a49 p50 s51 => ?_
 have s52 := p50.o s48 rfl
 refine s1 p50.z (okPickT s52 cst) rfl fun a53 p54 s55 => ?_
 refine s1 p54.z (okMv s55) rfl fun a56 p57 s58 => ?_
 refine s1k p57.z rfl (yd p57.z rfl rfl s58) rfl fun a59 p60 s61 => ?_
 have s62 := p60.o s58 rfl
 refine s1k p60.z rfl (yd p60.z rfl rfl s62) rfl fun a63 p64 s65 => ?_
 have s66 := p64.o s62 rfl
 refine s1k p64.z rfl (yd p64.z rfl rfl s66) rfl fun a67 p68 s69 => ?_
 have s70 := p68.o s66 rfl
 refine s1 p68.z (okPickT s70 cst) rfl fun a71 p72 s73 => ?_
 refine rN (thenN ?_)
 refine wp_cond_true s73 ?_
 refine wp_seq ?_
 refine reg ?_
 refine s1 p72.z (okMkI Try.underlying36 cst _) rfl fun a74 p75 s76 => ?_
 refine s1 p75.z (okAs cst) rfl fun a77 p78 s79 => ?_
 refine s1 p78.z (okAs cst) rfl fun a80 p81 s82 => ?_
 refine s1 p81.z (okAs cst) rfl fun a83 p84 s85 => ?_
 refine s1 p84.z (okAs cst) rfl fun a86 p87 s88 => ?_
 have s89 := p87.o (p84.o (p81.o (p78.o s76 rfl) rfl) rfl) rfl
 refine s1 p87.z (okAs s89) rfl fun a90 p91 s92 => ?_
 refine rN (thenN ?_)
 have s93 := p91.o (p87.o (p84.o (p81.o s79 rfl) rfl) rfl) rfl
 have s94 := p91.o (p87.o (p84.o s82 rfl) rfl) rfl
 have s95 := p91.o (p87.o s85 rfl) rfl
 have s96 := p91.o s88 rfl
 obtain rfl := Option.some.inj h
 exact wp_ret (thenR (jumpR (ret5 p91.z Try.results10 (rvT s93) (rvT s94) (rvT s95) (rvT s96) (rvT s92) ⟨_, rfl, (.slice none 0 0), (.slice none 0 0), (.iface 36 (.int .i64 1)), rfl, RdS.nil, RdS.nil, ErG.code, c0.g⟩)))

set_option maxHeartbeats 4000000 in
set_option maxRecDepth 100000 in
theorem c10_n1_n2 (L : List Nat) (w : World) (x0 : List TIns) (hp0 : Value) (x3 : Int) (x4 : List TFrame) (hp4 : Value) (hL : ∀ b ∈ L, b < w.heap.size) (D : Sep [] L) (qhp0 : RdS KTIns L w hp0 x0) (qhp4 : RdS KTFrame L w hp4 x4) (r : (List TFrame) × (List TNote) × Int × Int × Er) (h : micro_Step_n1_n2 x0 x3 x4 = some r) : Calls Try.prog 10 #[hp0, .pointer none, .pointer none, .int .i64 x3, hp4] w (fun e w' => ∃ v, e = .returned v ∧ ∃ u0_0 u1_0 u4_0, v = .tuple #[u0_0, u1_0, .int .i64 r.2.2.1, .int .i64 r.2.2.2.1, u4_0] ∧ RdS KTFrame L w' u0_0 r.1 ∧ RdS KTNote L w' u1_0 r.2.1 ∧ ErG 36 0 L w' u4_0 r.2.2.2.2 ∧ G ([] : List Nat) w w') := by
 refine enterF Try.func10 rfl rfl fun a0 z0 A => ?_
 have s0_0 := A 0 (hp0) rfl
 have s0_1 := A 1 (.pointer none) rfl
 have s0_2 := A 2 (.pointer none) rfl
 have s0_3 := A 3 (.int .i64 x3) rfl
 have s0_4 := A 4 (hp4) rfl
 clear A
 have hLb : ∀ b ∈ L, b < w.heap.size := fun b h => hL b h
 have c0 : Cx ([] : List Nat) w L w := ⟨G.refl _ _, hL⟩
 unfold micro_Step_n1_n2 at h
 refine wp_seq ?_
 refine reg ?_
 refine s1 z0 (okAs cst) rfl fun a1 p2 s3 => ?_
 refine s1 p2.z (okAs cst) rfl fun a4 p5 s6 => ?_
 refine s1 p5.z (okAs cst) rfl fun a7 p8 s9 => ?_
 refine s1 p8.z (okAs cst) rfl fun a10 p11 s12 => ?_
 refine s1 p11.z (okAs cst) rfl fun a13 p14 s15 => ?_
 refine rN (thenN ?_)
 refine scopeX 0 rfl ?_
 refine wp_seq ?_
 refine wp_seq ?_
 refine reg ?_
 have s16 := p14.o (p11.o (p8.o (p5.o (p2.o s0_1 rfl) rfl) rfl) rfl) rfl
 refine s1 p14.z (okMv s16) rfl fun a17 p18 s19 => ?_
 refine s1 p18.z (okNEq Try.underlying24 s19 cst) rfl fun a20 p21 s22 => ?_
 refine s1 p21.z (okMv s22) rfl fun a23 p24 s25 => ?_
 refine s1k p24.z rfl (yd p24.z rfl rfl s25) rfl fun a26 p27 s28 => ?_
 have s29 := p27.o s25 rfl
 refine s1k p27.z rfl (yd p27.z rfl rfl s29) rfl fun a30 p31 s32 => ?_
 have s33 := p31.o s29 rfl
 refine s1 p31.z (okPickT s33 cst) rfl fun a34 p35 s36 => ?_
 refine s1 p35.z (okMv s36) rfl fun a37 p38 s39 => ?_
 refine s1k p38.z rfl (yd p38.z rfl rfl s39) rfl fun a40 p41 s42 => ?_
 have s43 := p41.o s39 rfl
 refine s1k p41.z rfl (yd p41.z rfl rfl s43) rfl fun a44 p45 s46 => ?_
 have s47 := p45.o s43 rfl
 refine s1k p45.z rfl (yd p45.z rfl rfl s47) rfl fun a48 p49 s50 => ?_
 have s51 := p49.o s47 rfl
 refine s1 p49.z (okPickT s51 cst) rfl fun a52 p53 s54 => ?_
 refine s1 p53.z (okMv s54) rfl fun a55 p56 s57 => ?_
 refine s1k p56.z rfl (yd p56.z rfl rfl s57) rfl fun a58 p59 s60 => ?_
 have s61 := p59.o s57 rfl
 refine s1k p59.z rfl (yd p59.z rfl rfl s61) rfl fun a62 p63 s64 => ?_
 have s65 := p63.o s61 rfl
 refine s1k p63.z rfl (yd p63.z rfl rfl s65) rfl fun a66 p67 s68 => ?_
 have s69 := p67.o s65 rfl
 refine s1 p67.z (okPickT s69 cst) rfl fun a70 p71 s72 => ?_
 refine rN (thenN ?_)
 refine wp_cond_true s72 ?_
 refine wp_seq ?_
 refine reg ?_
 refine s1 p71.z (okMkI Try.underlying36 cst _) rfl fun a73 p74 s75 => ?_
 refine s1 p74.z (okAs cst) rfl fun a76 p77 s78 => ?_
 refine s1 p77.z (okAs cst) rfl fun a79 p80 s81 => ?_
 refine s1 p80.z (okAs cst) rfl fun a82 p83 s84 => ?_
 refine s1 p83.z (okAs cst) rfl fun a85 p86 s87 => ?_
 have s88 := p86.o (p83.o (p80.o (p77.o s75 rfl) rfl) rfl) rfl
 refine s1 p86.z (okAs s88) rfl fun a89 p90 s91 => ?_
 refine rN (thenN ?_)
 have s92 := p90.o (p86.o (p83.o (p80.o s78 rfl) rfl) rfl) rfl
 have s93 := p90.o (p86.o (p83.o s81 rfl) rfl) rfl
 have s94 := p90.o (p86.o s84 rfl) rfl
 have s95 := p90.o s87 rfl
 obtain rfl := Option.some.inj h
 exact wp_ret (thenR (jumpR (ret5 p90.z Try.results10 (rvT s92) (rvT s93) (rvT s94) (rvT s95) (rvT s91) ⟨_, rfl, (.slice none 0 0), (.slice none 0 0), (.iface 36 (.int .i64 1)), rfl, RdS.nil, RdS.nil, ErG.code, c0.g⟩)))

set_option maxHeartbeats 4000000 in
set_option maxRecDepth 100000 in
theorem c30 (L : List Nat) (w : World) (x0 : Tpermit_Table) (ob0 : Nat) (hp0_0 : Value) (x1 : Int) (hL : ∀ b ∈ (ob0 :: (ownB hp0_0 ++ L)), b < w.heap.size) (D : Sep [[ob0], ownB hp0_0] L) (mob0 : Bk w ob0 (Tpermit_Table.C x0 hp0_0) 78) (qhp0_0 : OwnS KTPark 59 (ob0 :: (ownB hp0_0 ++ L)) w hp0_0 x0.l) (r : Bool) (h : permit_Table_has x0 x1 = some r) : Calls Try.prog 30 #[ptr ob0 0, .int .i64 x1] w (fun e w' => ∃ v, e = .returned v ∧ v = .bool r ∧ G ([] : List Nat) w w') := by
 refine enterF Try.func30 rfl rfl fun a0 z0 A => ?_
 have s0_0 := A 0 (ptr ob0 0) rfl
 have s0_1 := A 1 (.int .i64 x1) rfl
 clear A
 have hLb : ∀ b ∈ L, b < w.heap.size := fun b h => hL b (.tail _ (List.mem_append_right _ h))
 have c0 : Cx ([] : List Nat) w (ob0 :: (ownB hp0_0 ++ L)) w := ⟨G.refl _ _, hL⟩
 unfold permit_Table_has at h
 refine wp_seq ?_
 refine reg ?_
 refine s1 z0 (okAs cst) rfl fun a1 p2 s3 => ?_
 refine rN (thenN ?_)
 refine wp_seq ?_
 refine reg ?_
 have s4 := p2.o s0_1 rfl
 refine s1 p2.z (okMv s4) rfl fun a5 p6 s7 => ?_
 refine s1 p6.z (okGe s7 cst) rfl fun a8 p9 s10 => ?_
 refine s1 p9.z (okMv s10) rfl fun a11 p12 s13 => ?_
 refine cutP 8 (fun a' => Pg Try.f30.ntmps [8, 9, 10, 11, 12, 13, 14, 15] a11 a' ∧ a'.eval (.tmp 15) = .bool ((decide (0 ≤ x1)) && (decide (x1 < (x0.l.length : Int))))) ?_ ?_
 ·rcases bf (decide (0 ≤ x1)) with hb14 | hb14
  ·have s15 := bv s13 hb14
   refine s1k p12.z rfl (yd p12.z rfl rfl s15) rfl fun a16 p17 s18 => ?_
   have s19 := p17.o s15 rfl
   refine s1k p17.z rfl (yd p17.z rfl rfl s19) rfl fun a20 p21 s22 => ?_
   have s23 := p21.o s19 rfl
   refine s1k p21.z rfl (yd p21.z rfl rfl s23) rfl fun a24 p25 s26 => ?_
   have s27 := p25.o s23 rfl
   refine s1k p25.z rfl (yd p25.z rfl rfl s27) rfl fun a28 p29 s30 => ?_
   have s31 := p29.o s27 rfl
   refine s1k p29.z rfl (yd p29.z rfl rfl s31) rfl fun a32 p33 s34 => ?_
   have s35 := p33.o s31 rfl
   refine s1k p33.z rfl (yd p33.z rfl rfl s35) rfl fun a36 p37 s38 => ?_
   have s39 := p37.o s35 rfl
   refine s1k p37.z rfl (yd p37.z rfl rfl s39) rfl fun a40 p41 s42 => ?_
   have s43 := p41.o s39 rfl
   refine s1 p41.z (okPickF s43 cst) rfl fun a44 p45 s46 => ?_
   exact rN ⟨rfl, rfl, (((((((((Pg.refl p12.z).st p17 rfl).st p21 rfl).st p25 rfl).st p29 rfl).st p33 rfl).st p37 rfl).st p41 rfl).st p45 rfl), (andF hb14 s46)⟩
  ·have s47 := bv s13 hb14
   have s48 := p12.o (p9.o (p6.o s4 rfl) rfl) rfl
   refine s1g p12.z (okMv s48) rfl (yd p12.z rfl rfl s47) fun a49 p50 s51 => ?_
   have s52 := p50.o s47 rfl
   have s53 := p50.o (p12.o (p9.o (p6.o (p2.o s0_0 rfl) rfl) rfl) rfl) rfl
   refine s1g p50.z (okMv s53) rfl (yd p50.z rfl rfl s52) fun a54 p55 s56 => ?_
   have s57 := p55.o s52 rfl
   refine s1g p55.z (okNil s56) rfl (yd p55.z rfl rfl s57) fun a58 p59 s60 => ?_
   have s61 := p59.o s57 rfl
   refine s1g p59.z (okFA (o' := 0) fo78_0 s60 rfl) rfl (yd p59.z rfl rfl s61) fun a62 p63 s64 => ?_
   have s65 := p63.o s61 rfl
   refine s1g p63.z (okLd (j := 0) na75 s64 (mob0.cl) rfl rfl) rfl (yd p63.z rfl rfl s65) fun a66 p67 s68 => ?_
   have s69 := p67.o s65 rfl
   refine s1g p67.z (okLenO (E2 := 59) Try.underlying75 s68 qhp0_0) rfl (yd p67.z rfl rfl s69) fun a70 p71 s72 => ?_
   have s73 := p71.o s69 rfl
   have s74 := p71.o (p67.o (p63.o (p59.o (p55.o s51 rfl) rfl) rfl) rfl) rfl
   refine s1g p71.z (okLt s74 s72) rfl (yd p71.z rfl rfl s73) fun a75 p76 s77 => ?_
   have s78 := p76.o s73 rfl
   refine s1 p76.z (okPickT s78 s77) rfl fun a79 p80 s81 => ?_
   exact rN ⟨rfl, rfl, (((((((((Pg.refl p12.z).st p50 rfl).st p55 rfl).st p59 rfl).st p63 rfl).st p67 rfl).st p71 rfl).st p76 rfl).st p80 rfl), (andT hb14 s81)⟩
 rintro a82 ⟨pg83, s84⟩
 refine s1 pg83.z (okAs s84) rfl fun a85 p86 s87 => ?_
 refine rN (thenN ?_)
 obtain rfl := Option.some.inj h
 exact wp_ret (ret1 p86.z Try.results30 (rvT s87) ⟨_, rfl, rfl, c0.g⟩)

set_option maxHeartbeats 4000000 in
set_option maxRecDepth 100000 in
theorem c22 (L : List Nat) (w : World) (x0 : Tpermit_Table) (ob0 : Nat) (hp0_0 : Value) (x1 : Int) (hL : ∀ b ∈ (ob0 :: (ownB hp0_0 ++ L)), b < w.heap.size) (D : Sep [[ob0], ownB hp0_0] L) (mob0 : Bk w ob0 (Tpermit_Table.C x0 hp0_0) 78) (qhp0_0 : OwnS KTPark 59 (ob0 :: (ownB hp0_0 ++ L)) w hp0_0 x0.l) (r : TPark × Er) (h : permit_Table_At x0 x1 = some r) : Calls Try.prog 22 #[ptr ob0 0, .int .i64 x1] w (fun e w' => ∃ v, e = .returned v ∧ ∃ u1_0, v = .tuple #[.agg (TPark.C r.1).toArray, u1_0] ∧ ErG 36 0 (ob0 :: (ownB hp0_0 ++ L)) w' u1_0 r.2 ∧ G ([] : List Nat) w w') := by
 refine enterF Try.func22 rfl rfl fun a0 z0 A => ?_
 have s0_0 := A 0 (ptr ob0 0) rfl
 have s0_1 := A 1 (.int .i64 x1) rfl
 clear A
 have hLb : ∀ b ∈ L, b < w.heap.size := fun b h => hL b (.tail _ (List.mem_append_right _ h))
 have c0 : Cx ([] : List Nat) w (ob0 :: (ownB hp0_0 ++ L)) w := ⟨G.refl _ _, hL⟩
 unfold permit_Table_At at h
 refine wp_seq ?_
 refine reg ?_
 refine lS (oAlloc zv59 z0 rfl fun a1 w2 b3 p4 sp4 m5 g6 e7 => ?_)
 have f9 := c0.nw e7
 have cx8 := c0.al g6 m5
 refine s1 p4.z (okAs cst) rfl fun a10 p11 s12 => ?_
 refine rN (thenN ?_)
 refine wp_seq ?_
 refine wp_seq ?_
 refine reg ?_
 have s13 := p11.o (p4.o s0_0 rfl) rfl
 refine s1 p11.z (okMv s13) rfl fun a14 p15 s16 => ?_
 have s17 := p15.o (p11.o (p4.o s0_1 rfl) rfl) rfl
 refine s1 p15.z (okMv s17) rfl fun a18 p19 s20 => ?_
 have s21 := p19.o s16 rfl
 have m22 := mob0.g0 g6
 have q23 := qhp0_0.t0 (g6.tA (Nat.le_of_eq e7.symm)) g6
 obtain ⟨t24, ht25, h⟩ := Option.bind_eq_some_iff.1 h
 refine lS (oCall p19.z Try.call30 (ag2 s21 s20) (c30 (b3 :: L) w2 x0 ob0 hp0_0 x1 (fun i h => cx8.lt i ((List.mem_cons.1 h).elim (fun e => e ▸ (.tail _ (.head _))) (fun h => (List.mem_append.1 h).elim (fun h => (.tail _ (.tail _ (List.mem_append_left _ h)))) (fun h => (List.mem_cons.1 h).elim (fun e => e ▸ (.head _)) (fun h => (.tail _ (.tail _ (List.mem_append_right _ h)))))))) (sepC (show ∀ x ∈ [ob0], x ∉ (ownB hp0_0 ++ (b3 :: L)) from (in1 (na (D.bo (i := 0) (j := 1) rfl rfl rfl) (nc (mob0.ne e7) (D.bl (i := 0) rfl))))) (sepC (show ∀ x ∈ ownB hp0_0, x ∉ (b3 :: L) from (fun x hx => (nc (nbo (qhp0_0.nb e7) hx) ((D.dl (i := 1) rfl) x hx)))) sepN)) m22 (q23.sub (fun i h => (List.mem_cons.1 h).elim (fun e => e ▸ (.tail _ (.head _))) (fun h => (List.mem_append.1 h).elim (fun h => (.tail _ (.tail _ (List.mem_append_left _ h)))) (fun h => (List.mem_cons.1 h).elim (fun e => e ▸ (.head _)) (fun h => (.tail _ (.tail _ (List.mem_append_right _ h)))))))) _ ht25) rfl fun v29 a26 w27 hp30 p28 sp28 => ?_)
 obtain ⟨rfl, g33⟩ := hp30
 have cx34 := cx8.ca g33
 refine s1 p28.z (okNot sp28) rfl fun a35 p36 s37 => ?_
 refine rN (thenN ?_)
 have s38 := p36.o (p28.o (p19.o (p15.o s13 rfl) rfl) rfl) rfl
 have s39 := p36.o (p28.o (p19.o s17 rfl) rfl) rfl
 have s40 := p36.o (p28.o (p19.o (p15.o (p11.o sp4 rfl) rfl) rfl) rfl) rfl
 have s41 := p36.o (p28.o (p19.o (p15.o s12 rfl) rfl) rfl) rfl
 have pg42 : Pg _ [4, 5, 6, 7, 8, 9] _ _ := (((((((Pg.refl z0).st p4 rfl).st p11 rfl).st p15 rfl).st p19 rfl).st p28 rfl).st p36 rfl)
 refine cnd s37 (fun hb43 => ?_) (fun hb43 => ?_)
 ·replace h := (ifP hb43).symm.trans h
  refine wp_seq ?_
  refine reg ?_
  refine s1 pg42.z (okBd (pb0 ) (bd59_  _)) rfl fun a44 p45 s46 => ?_
  refine s1 p45.z (okMkI Try.underlying36 cst _) rfl fun a47 p48 s49 => ?_
  have s50 := p48.o (p45.o s40 rfl) rfl
  have s51 := p48.o s46 rfl
  have m52 := m5.g0 g33
  refine lS (oStoW (cs := TPark.C (⟨false, false, false, 0⟩ : TPark)) p48.z s50 s51 m52 Try.sizeOf59 rfl (TPark.C_one _) rfl fun w53 m54 g55 => ?_)
  have cx56 := cx34.st g55 f9
  refine s1 p48.z (okAs s49) rfl fun a57 p58 s59 => ?_
  refine rN (thenN ?_)
  have s60 := p58.o s50 rfl
  obtain rfl := Option.some.inj h
  exact wp_ret (thenR (ret2 p58.z Try.results22 (rvA ag59 s60 m54 rfl) (rvT s59) ⟨_, rfl, (.iface 36 (.int .i64 4)), rfl, ErG.code, cx56.g⟩))
 replace h := (ifN hb43).symm.trans h
 refine wp_skip (thenN ?_)
 refine wp_seq ?_
 refine reg ?_
 refine s1 pg42.z (okMv s38) rfl fun a61 p62 s63 => ?_
 refine s1 p62.z (okNil s63) rfl fun a64 p65 s66 => ?_
 refine s1 p65.z (okFA (o' := 0) fo78_0 s66 rfl) rfl fun a67 p68 s69 => ?_
 have m70 := m22.g0 g33
 refine s1 p68.z (okLd (j := 0) na75 s69 (m70.cl) rfl rfl) rfl fun a71 p72 s73 => ?_
 have s74 := p72.o (p68.o (p65.o (p62.o s39 rfl) rfl) rfl) rfl
 refine s1 p72.z (okMv s74) rfl fun a75 p76 s77 => ?_
 have s78 := p76.o s73 rfl
 have q79 := q23.t0 g33.t0 g33
 obtain ⟨y80, hy81, h⟩ := Option.bind_eq_some_iff.1 h
 obtain ⟨b82, cs84, r86, e87, nb88, k85⟩ := q79.at_ hy81
 obtain rfl := r86
 refine s1 p76.z (k85 Try.underlying75 Try.sizeOf59 s78 s77 _) rfl fun a89 p90 s91 => ?_
 refine s1 p90.z (okLdA ag59 s91 e87 rfl rfl whole) rfl fun a92 p93 s94 => ?_
 have s95 := p93.o (p90.o (p76.o (p72.o (p68.o (p65.o (p62.o s40 rfl) rfl) rfl) rfl) rfl) rfl) rfl
 have m96 := m5.g0 g33
 refine lS (oStoW (cs := TPark.C y80) p93.z s95 s94 m96 Try.sizeOf59 rfl (TPark.C_one _) rfl fun w97 m98 g99 => ?_)
 have cx100 := cx34.st g99 f9
 refine s1 p93.z (okAs cst) rfl fun a101 p102 s103 => ?_
 refine rN (thenN ?_)
 have s104 := p102.o s95 rfl
 obtain rfl := Option.some.inj h
 exact wp_ret (ret2 p102.z Try.results22 (rvA ag59 s104 m98 rfl) (rvT s103) ⟨_, rfl, .nilIface, rfl, ErG.nil, cx100.g⟩)

set_option maxHeartbeats 4000000 in
set_option maxRecDepth 100000 in
theorem c23 (L : List Nat) (w : World) (hL : ∀ b ∈ L, b < w.heap.size) (x0 : List TFrame) (h0 : Value) (qh0 : RdS KTFrame L w h0 x0) (r : (List TFrame)) (h : slices_Clone_Frame x0 = some r) : Calls Try.prog 23 #[h0] w (fun e w' => ∃ v, e = .returned v ∧ OwnS KTFrame 66 (ownB v ++ L) w' v r ∧ (∀ x ∈ ownB v, w.heap.size ≤ x) ∧ G [] w w') := by
 refine enterF Try.func23 rfl rfl fun a0 z0 A => ?_
 have s0_0 := A 0 (h0) rfl
 clear A
 have c0 : Cx [] w L w := ⟨G.refl _ _, hL⟩
 unfold slices_Clone_Frame at h
 rcases qh0.nilOr with ⟨rfl, rfl⟩ | ⟨ad, n, c, e⟩
 ·have hr : r = [] := by simp [app] at h; first | exact h | exact h.symm
  subst hr
  have h : some ([] : List TFrame) = some [] := rfl
  refine wp_seq ?_
  refine reg ?_
  refine s1 z0 (okAs cst) rfl fun a1 p2 s3 => ?_
  refine rN (thenN ?_)
  refine wp_seq ?_
  refine wp_seq ?_
  refine reg ?_
  have s4 := p2.o s0_0 rfl
  refine s1 p2.z (okMv s4) rfl fun a5 p6 s7 => ?_
  refine s1 p6.z (okNilT Try.underlying30 s7) rfl fun a8 p9 s10 => ?_
  refine rN (thenN ?_)
  refine wp_cond_true s10 ?_
  refine wp_seq ?_
  refine reg ?_
  refine s1 p9.z (okAs cst) rfl fun a11 p12 s13 => ?_
  refine rN (thenN ?_)
  exact wp_ret (thenR (ret1 p12.z Try.results23 (rvT s13) ⟨_, rfl, OwnS.nil, (fun _ h => nilO h), c0.g⟩))
 ·subst e
  refine wp_seq ?_
  refine reg ?_
  refine s1 z0 (okAs cst) rfl fun a14 p15 s16 => ?_
  refine rN (thenN ?_)
  refine wp_seq ?_
  refine wp_seq ?_
  refine reg ?_
  have s17 := p15.o s0_0 rfl
  refine s1 p15.z (okMv s17) rfl fun a18 p19 s20 => ?_
  refine s1 p19.z (okNilF Try.underlying30 s20) rfl fun a21 p22 s23 => ?_
  refine rN (thenN ?_)
  refine wp_cond_false s23 ?_
  refine wp_skip (thenN ?_)
  refine wp_seq ?_
  refine reg ?_
  refine lS (oBS (K := KTFrame) (L := L) (xs := []) (C := []) p22.z (pb0 ) (bs30_0_ ) rfl rfl (fun _ _ _ h => by simp at h) rfl rfl fun a24 v25 w26 p27 sp27 q28 g29 f30 => ?_)
  have f31 := frN f30
  have nb32 := nbA hL c0.g.sz (fun _ h => nilO h) f31
  have sf33 := sfA (S := []) c0.g.sz (fun _ h => nilO h) f31
  have cx34 := c0.ap g29 (fun _ h => nilO h) q28
  have s35 := p27.o (p22.o (p19.o s17 rfl) rfl) rfl
  refine s1 p27.z (okMv s35) rfl fun a36 p37 s38 => ?_
  have s39 := p37.o sp27 rfl
  obtain ⟨z40, hz41, h⟩ := Option.bind_eq_some_iff.1 h
  have q42 := qh0.mono (tAp g29 (fun _ h => nilO h) f31)
  refine lS (oApp (K := KTFrame) (L := (ownB v25 ++ L)) Try.underlying30 ti66 rfl p37.z s39 s38 q28 q42.src hz41 (fun _ h => (List.mem_append_left _ h)) rfl fun a43 v44 w45 p46 sp46 q47 g48 f49 => ?_)
  have nb50 := nbA hL cx34.g.sz nb32 f49
  have sf51 := sfA (S := []) cx34.g.sz sf33 f49
  have cx52 := cx34.ap g48 sf33 q47
  have cx53 := cx52.sub (fun i h => (List.mem_append.1 h).elim (fun h => (List.mem_append_left _ h)) (fun h => (List.mem_append_right _ (List.mem_append_right _ h))))
  have q54 := q47.sub (fun i h => (List.mem_append.1 h).elim (fun h => (List.mem_append_left _ h)) (fun h => (List.mem_append_right _ (List.mem_append_right _ h))))
  refine s1 p46.z (okAs sp46) rfl fun a55 p56 s57 => ?_
  refine rN (thenN ?_)
  obtain rfl := Option.some.inj h
  exact wp_ret (ret1 p56.z Try.results23 (rvT s57) ⟨_, rfl, (q54.sub (fun _ h => h)), (frO sf51), cx53.g⟩)

set_option maxHeartbeats 4000000 in
set_option maxRecDepth 100000 in
theorem c31 (L : List Nat) (w : World) (hL : ∀ b ∈ L, b < w.heap.size)  (r : (List Tins_shape)) (h : ins_shapes = some r) : Calls Try.prog 31 #[] w (fun e w' => ∃ v, e = .returned v ∧ RdS KTins_shape L w' v r ∧ G [] w w') := by
 refine enterF Try.func31 rfl rfl fun a0 z0 A => ?_
 clear A
 have c0 : Cx [] w L w := ⟨G.refl _ _, hL⟩
 unfold ins_shapes at h
 refine wp_seq ?_
 refine reg ?_
 refine s1 z0 (okAs cst) rfl fun a1 p2 s3 => ?_
 refine rN (thenN ?_)
 refine wp_seq ?_
 refine reg ?_
 refine s1 p2.z (okBd (pb0 ) (bd85_  _)) rfl fun a4 p5 s6 => ?_
 refine s1 p5.z (okBd (pb2 cst cst) (bd85_0_1 [115, 101, 116] [65, 78] _)) rfl fun a7 p8 s9 => ?_
 refine s1 p8.z (okBd (pb2 cst cst) (bd85_0_1 [109, 111, 118] [65, 66] _)) rfl fun a10 p11 s12 => ?_
 refine s1 p11.z (okBd (pb2 cst cst) (bd85_0_1 [97, 100, 100] [65, 66, 67] _)) rfl fun a13 p14 s15 => ?_
 refine s1 p14.z (okBd (pb2 cst cst) (bd85_0_1 [97, 100, 100, 105] [65, 66, 78] _)) rfl fun a16 p17 s18 => ?_
 refine s1 p17.z (okBd (pb2 cst cst) (bd85_0_1 [108, 100] [65, 66, 78] _)) rfl fun a19 p20 s21 => ?_
 refine s1 p20.z (okBd (pb2 cst cst) (bd85_0_1 [115, 116] [65, 66, 78] _)) rfl fun a22 p23 s24 => ?_
 refine s1 p23.z (okBd (pb2 cst cst) (bd85_0_1 [99, 97, 115] [65, 66, 78] _)) rfl fun a25 p26 s27 => ?_
 refine s1 p26.z (okBd (pb2 cst cst) (bd85_0_1 [106, 109, 112] [84] _)) rfl fun a28 p29 s30 => ?_
 refine s1 p29.z (okBd (pb2 cst cst) (bd85_0_1 [106, 101, 113] [65, 66, 84] _)) rfl fun a31 p32 s33 => ?_
 refine s1 p32.z (okBd (pb2 cst cst) (bd85_0_1 [106, 110, 101] [65, 66, 84] _)) rfl fun a34 p35 s36 => ?_
 refine s1 p35.z (okBd (pb2 cst cst) (bd85_0_1 [106, 108, 116] [65, 66, 84] _)) rfl fun a37 p38 s39 => ?_
 refine s1 p38.z (okBd (pb2 cst cst) (bd85_0_1 [99, 97, 108, 108] [84] _)) rfl fun a40 p41 s42 => ?_
 refine s1 p41.z (okBd (pb2 cst cst) (bd85_0_1 [114, 101, 116] [] _)) rfl fun a43 p44 s45 => ?_
 refine s1 p44.z (okBd (pb2 cst cst) (bd85_0_1 [112, 97, 114, 107] [65] _)) rfl fun a46 p47 s48 => ?_
 refine s1 p47.z (okBd (pb2 cst cst) (bd85_0_1 [117, 110, 112, 97, 114, 107] [65] _)) rfl fun a49 p50 s51 => ?_
 refine s1 p50.z (okBd (pb2 cst cst) (bd85_0_1 [97, 108, 108, 111, 99] [65, 78] _)) rfl fun a52 p53 s54 => ?_
 refine s1 p53.z (okBd (pb2 cst cst) (bd85_0_1 [115, 101, 108, 102] [65] _)) rfl fun a55 p56 s57 => ?_
 refine s1 p56.z (okBd (pb2 cst cst) (bd85_0_1 [110, 111, 119] [65] _)) rfl fun a58 p59 s60 => ?_
 refine s1 p59.z (okBd (pb2 cst cst) (bd85_0_1 [105, 110, 116, 114] [65] _)) rfl fun a61 p62 s63 => ?_
 refine s1 p62.z (okBd (pb2 cst cst) (bd85_0_1 [115, 101, 116, 105, 110, 116] [] _)) rfl fun a64 p65 s66 => ?_
 refine s1 p65.z (okBd (pb2 cst cst) (bd85_0_1 [109, 97, 114, 107] [78, 65] _)) rfl fun a67 p68 s69 => ?_
 refine s1 p68.z (okBd (pb2 cst cst) (bd85_0_1 [100, 111, 110, 101] [65] _)) rfl fun a70 p71 s72 => ?_
 have s73 := p71.o (p68.o (p65.o (p62.o (p59.o (p56.o (p53.o (p50.o (p47.o (p44.o (p41.o (p38.o (p35.o (p32.o (p29.o (p26.o (p23.o (p20.o (p17.o (p14.o (p11.o (p8.o s6 rfl) rfl) rfl) rfl) rfl) rfl) rfl) rfl) rfl) rfl) rfl) rfl) rfl) rfl) rfl) rfl) rfl) rfl) rfl) rfl) rfl) rfl
 have s74 := p71.o (p68.o (p65.o (p62.o (p59.o (p56.o (p53.o (p50.o (p47.o (p44.o (p41.o (p38.o (p35.o (p32.o (p29.o (p26.o (p23.o (p20.o (p17.o (p14.o (p11.o s9 rfl) rfl) rfl) rfl) rfl) rfl) rfl) rfl) rfl) rfl) rfl) rfl) rfl) rfl) rfl) rfl) rfl) rfl) rfl) rfl) rfl
 have s75 := p71.o (p68.o (p65.o (p62.o (p59.o (p56.o (p53.o (p50.o (p47.o (p44.o (p41.o (p38.o (p35.o (p32.o (p29.o (p26.o (p23.o (p20.o (p17.o (p14.o s12 rfl) rfl) rfl) rfl) rfl) rfl) rfl) rfl) rfl) rfl) rfl) rfl) rfl) rfl) rfl) rfl) rfl) rfl) rfl) rfl
 have s76 := p71.o (p68.o (p65.o (p62.o (p59.o (p56.o (p53.o (p50.o (p47.o (p44.o (p41.o (p38.o (p35.o (p32.o (p29.o (p26.o (p23.o (p20.o (p17.o s15 rfl) rfl) rfl) rfl) rfl) rfl) rfl) rfl) rfl) rfl) rfl) rfl) rfl) rfl) rfl) rfl) rfl) rfl) rfl
 have s77 := p71.o (p68.o (p65.o (p62.o (p59.o (p56.o (p53.o (p50.o (p47.o (p44.o (p41.o (p38.o (p35.o (p32.o (p29.o (p26.o (p23.o (p20.o s18 rfl) rfl) rfl) rfl) rfl) rfl) rfl) rfl) rfl) rfl) rfl) rfl) rfl) rfl) rfl) rfl) rfl) rfl
 have s78 := p71.o (p68.o (p65.o (p62.o (p59.o (p56.o (p53.o (p50.o (p47.o (p44.o (p41.o (p38.o (p35.o (p32.o (p29.o (p26.o (p23.o s21 rfl) rfl) rfl) rfl) rfl) rfl) rfl) rfl) rfl) rfl) rfl) rfl) rfl) rfl) rfl) rfl) rfl
 have s79 := p71.o (p68.o (p65.o (p62.o (p59.o (p56.o (p53.o (p50.o (p47.o (p44.o (p41.o (p38.o (p35.o (p32.o (p29.o (p26.o s24 rfl) rfl) rfl) rfl) rfl) rfl) rfl) rfl) rfl) rfl) rfl) rfl) rfl) rfl) rfl) rfl
 have s80 := p71.o (p68.o (p65.o (p62.o (p59.o (p56.o (p53.o (p50.o (p47.o (p44.o (p41.o (p38.o (p35.o (p32.o (p29.o s27 rfl) rfl) rfl) rfl) rfl) rfl) rfl) rfl) rfl) rfl) rfl) rfl) rfl) rfl) rfl
 have s81 := p71.o (p68.o (p65.o (p62.o (p59.o (p56.o (p53.o (p50.o (p47.o (p44.o (p41.o (p38.o (p35.o (p32.o s30 rfl) rfl) rfl) rfl) rfl) rfl) rfl) rfl) rfl) rfl) rfl) rfl) rfl) rfl
 have s82 := p71.o (p68.o (p65.o (p62.o (p59.o (p56.o (p53.o (p50.o (p47.o (p44.o (p41.o (p38.o (p35.o s33 rfl) rfl) rfl) rfl) rfl) rfl) rfl) rfl) rfl) rfl) rfl) rfl) rfl
 have s83 := p71.o (p68.o (p65.o (p62.o (p59.o (p56.o (p53.o (p50.o (p47.o (p44.o (p41.o (p38.o s36 rfl) rfl) rfl) rfl) rfl) rfl) rfl) rfl) rfl) rfl) rfl) rfl
 have s84 := p71.o (p68.o (p65.o (p62.o (p59.o (p56.o (p53.o (p50.o (p47.o (p44.o (p41.o s39 rfl) rfl) rfl) rfl) rfl) rfl) rfl) rfl) rfl) rfl) rfl
 have s85 := p71.o (p68.o (p65.o (p62.o (p59.o (p56.o (p53.o (p50.o (p47.o (p44.o s42 rfl) rfl) rfl) rfl) rfl) rfl) rfl) rfl) rfl) rfl
 have s86 := p71.o (p68.o (p65.o (p62.o (p59.o (p56.o (p53.o (p50.o (p47.o s45 rfl) rfl) rfl) rfl) rfl) rfl) rfl) rfl) rfl
 have s87 := p71.o (p68.o (p65.o (p62.o (p59.o (p56.o (p53.o (p50.o s48 rfl) rfl) rfl) rfl) rfl) rfl) rfl) rfl
 have s88 := p71.o (p68.o (p65.o (p62.o (p59.o (p56.o (p53.o s51 rfl) rfl) rfl) rfl) rfl) rfl) rfl
 have s89 := p71.o (p68.o (p65.o (p62.o (p59.o (p56.o s54 rfl) rfl) rfl) rfl) rfl) rfl
 have s90 := p71.o (p68.o (p65.o (p62.o (p59.o s57 rfl) rfl) rfl) rfl) rfl
 have s91 := p71.o (p68.o (p65.o (p62.o s60 rfl) rfl) rfl) rfl
 have s92 := p71.o (p68.o (p65.o s63 rfl) rfl) rfl
 have s93 := p71.o (p68.o s66 rfl) rfl
 have s94 := p71.o s69 rfl
 refine lS (oBS (K := KTins_shape) (L := L) (xs := [(⟨[], []⟩ : Tins_shape), (⟨[115, 101, 116], [65, 78]⟩ : Tins_shape), (⟨[109, 111, 118], [65, 66]⟩ : Tins_shape), (⟨[97, 100, 100], [65, 66, 67]⟩ : Tins_shape), (⟨[97, 100, 100, 105], [65, 66, 78]⟩ : Tins_shape), (⟨[108, 100], [65, 66, 78]⟩ : Tins_shape), (⟨[115, 116], [65, 66, 78]⟩ : Tins_shape), (⟨[99, 97, 115], [65, 66, 78]⟩ : Tins_shape), (⟨[106, 109, 112], [84]⟩ : Tins_shape), (⟨[106, 101, 113], [65, 66, 84]⟩ : Tins_shape), (⟨[106, 110, 101], [65, 66, 84]⟩ : Tins_shape), (⟨[106, 108, 116], [65, 66, 84]⟩ : Tins_shape), (⟨[99, 97, 108, 108], [84]⟩ : Tins_shape), (⟨[114, 101, 116], []⟩ : Tins_shape), (⟨[112, 97, 114, 107], [65]⟩ : Tins_shape), (⟨[117, 110, 112, 97, 114, 107], [65]⟩ : Tins_shape), (⟨[97, 108, 108, 111, 99], [65, 78]⟩ : Tins_shape), (⟨[115, 101, 108, 102], [65]⟩ : Tins_shape), (⟨[110, 111, 119], [65]⟩ : Tins_shape), (⟨[105, 110, 116, 114], [65]⟩ : Tins_shape), (⟨[115, 101, 116, 105, 110, 116], []⟩ : Tins_shape), (⟨[109, 97, 114, 107], [78, 65]⟩ : Tins_shape), (⟨[100, 111, 110, 101], [65]⟩ : Tins_shape)]) (C := [Tins_shape.C (⟨[], []⟩ : Tins_shape), Tins_shape.C (⟨[115, 101, 116], [65, 78]⟩ : Tins_shape), Tins_shape.C (⟨[109, 111, 118], [65, 66]⟩ : Tins_shape), Tins_shape.C (⟨[97, 100, 100], [65, 66, 67]⟩ : Tins_shape), Tins_shape.C (⟨[97, 100, 100, 105], [65, 66, 78]⟩ : Tins_shape), Tins_shape.C (⟨[108, 100], [65, 66, 78]⟩ : Tins_shape), Tins_shape.C (⟨[115, 116], [65, 66, 78]⟩ : Tins_shape), Tins_shape.C (⟨[99, 97, 115], [65, 66, 78]⟩ : Tins_shape), Tins_shape.C (⟨[106, 109, 112], [84]⟩ : Tins_shape), Tins_shape.C (⟨[106, 101, 113], [65, 66, 84]⟩ : Tins_shape), Tins_shape.C (⟨[106, 110, 101], [65, 66, 84]⟩ : Tins_shape), Tins_shape.C (⟨[106, 108, 116], [65, 66, 84]⟩ : Tins_shape), Tins_shape.C (⟨[99, 97, 108, 108], [84]⟩ : Tins_shape), Tins_shape.C (⟨[114, 101, 116], []⟩ : Tins_shape), Tins_shape.C (⟨[112, 97, 114, 107], [65]⟩ : Tins_shape), Tins_shape.C (⟨[117, 110, 112, 97, 114, 107], [65]⟩ : Tins_shape), Tins_shape.C (⟨[97, 108, 108, 111, 99], [65, 78]⟩ : Tins_shape), Tins_shape.C (⟨[115, 101, 108, 102], [65]⟩ : Tins_shape), Tins_shape.C (⟨[110, 111, 119], [65]⟩ : Tins_shape), Tins_shape.C (⟨[105, 110, 116, 114], [65]⟩ : Tins_shape), Tins_shape.C (⟨[115, 101, 116, 105, 110, 116], []⟩ : Tins_shape), Tins_shape.C (⟨[109, 97, 114, 107], [78, 65]⟩ : Tins_shape), Tins_shape.C (⟨[100, 111, 110, 101], [65]⟩ : Tins_shape)]) p71.z (pbn (pcC s73 (pcC s74 (pcC s75 (pcC s76 (pcC s77 (pcC s78 (pcC s79 (pcC s80 (pcC s81 (pcC s82 (pcC s83 (pcC s84 (pcC s85 (pcC s86 (pcC s87 (pcC s88 (pcC s89 (pcC s90 (pcC s91 (pcC s92 (pcC s93 (pcC s94 (pcC s72 pcN)))))))))))))))))))))))) (bs82_23_0_1_2_3_4_5_6_7_8_9_10_11_12_13_14_15_16_17_18_19_20_21_22 (⟨[], []⟩ : Tins_shape) (⟨[115, 101, 116], [65, 78]⟩ : Tins_shape) (⟨[109, 111, 118], [65, 66]⟩ : Tins_shape) (⟨[97, 100, 100], [65, 66, 67]⟩ : Tins_shape) (⟨[97, 100, 100, 105], [65, 66, 78]⟩ : Tins_shape) (⟨[108, 100], [65, 66, 78]⟩ : Tins_shape) (⟨[115, 116], [65, 66, 78]⟩ : Tins_shape) (⟨[99, 97, 115], [65, 66, 78]⟩ : Tins_shape) (⟨[106, 109, 112], [84]⟩ : Tins_shape) (⟨[106, 101, 113], [65, 66, 84]⟩ : Tins_shape) (⟨[106, 110, 101], [65, 66, 84]⟩ : Tins_shape) (⟨[106, 108, 116], [65, 66, 84]⟩ : Tins_shape) (⟨[99, 97, 108, 108], [84]⟩ : Tins_shape) (⟨[114, 101, 116], []⟩ : Tins_shape) (⟨[112, 97, 114, 107], [65]⟩ : Tins_shape) (⟨[117, 110, 112, 97, 114, 107], [65]⟩ : Tins_shape) (⟨[97, 108, 108, 111, 99], [65, 78]⟩ : Tins_shape) (⟨[115, 101, 108, 102], [65]⟩ : Tins_shape) (⟨[110, 111, 119], [65]⟩ : Tins_shape) (⟨[105, 110, 116, 114], [65]⟩ : Tins_shape) (⟨[115, 101, 116, 105, 110, 116], []⟩ : Tins_shape) (⟨[109, 97, 114, 107], [78, 65]⟩ : Tins_shape) (⟨[100, 111, 110, 101], [65]⟩ : Tins_shape)) rfl rfl (all2C rfl (all2C rfl (all2C rfl (all2C rfl (all2C rfl (all2C rfl (all2C rfl (all2C rfl (all2C rfl (all2C rfl (all2C rfl (all2C rfl (all2C rfl (all2C rfl (all2C rfl (all2C rfl (all2C rfl (all2C rfl (all2C rfl (all2C rfl (all2C rfl (all2C rfl (all2C rfl all2N))))))))))))))))))))))) rfl rfl fun a95 v96 w97 p98 sp98 q99 g100 f101 => ?_)
 have f102 := frN f101
 have nb103 := nbA hL c0.g.sz (fun _ h => nilO h) f102
 have sf104 := sfA (S := []) c0.g.sz (fun _ h => nilO h) f102
 have cx105 := c0.ap g100 (fun _ h => nilO h) q99
 refine s1 p98.z (okAs sp98) rfl fun a106 p107 s108 => ?_
 refine rN (thenN ?_)
 obtain rfl := Option.some.inj h
 exact wp_ret (ret1 p107.z Try.results31 (rvT s108) ⟨_, rfl, (q99.rd (fun i h => (List.mem_append_right _ h)) nb103), cx105.g⟩)

set_option maxHeartbeats 4000000 in
set_option maxRecDepth 100000 in
theorem c32 (L : List Nat) (w : World) (hL : ∀ b ∈ L, b < w.heap.size) (x0 : Int) (r : Bool) (h : ins_May_1 x0 = some r) : Calls Try.prog 32 #[.int .i64 x0] w (fun e w' => ∃ v, e = .returned v ∧ v = .bool r ∧ G [] w w') := by
 refine enterF Try.func32 rfl rfl fun a0 z0 A => ?_
 have s0_0 := A 0 (.int .i64 x0) rfl
 clear A
 have c0 : Cx [] w L w := ⟨G.refl _ _, hL⟩
 unfold ins_May_1 at h
 refine wp_seq ?_
 refine reg ?_
 refine s1 z0 (okAs cst) rfl fun a1 p2 s3 => ?_
 refine rN (thenN ?_)
 refine wp_seq ?_
 refine reg ?_
 have s4 := p2.o s0_0 rfl
 refine s1 p2.z (okMv s4) rfl fun a5 p6 s7 => ?_
 refine s1 p6.z (okGe s7 cst) rfl fun a8 p9 s10 => ?_
 refine s1 p9.z (okMv s10) rfl fun a11 p12 s13 => ?_
 refine cutP 3 (fun a' => Pg Try.f32.ntmps [6, 7, 8] a11 a' ∧ a'.eval (.tmp 8) = .bool ((decide (0 ≤ x0)) && (decide (x0 < 16)))) ?_ ?_
 ·rcases bf (decide (0 ≤ x0)) with hb14 | hb14
  ·have s15 := bv s13 hb14
   refine s1k p12.z rfl (yd p12.z rfl rfl s15) rfl fun a16 p17 s18 => ?_
   have s19 := p17.o s15 rfl
   refine s1k p17.z rfl (yd p17.z rfl rfl s19) rfl fun a20 p21 s22 => ?_
   have s23 := p21.o s19 rfl
   refine s1 p21.z (okPickF s23 cst) rfl fun a24 p25 s26 => ?_
   exact rN ⟨rfl, rfl, ((((Pg.refl p12.z).st p17 rfl).st p21 rfl).st p25 rfl), (andF hb14 s26)⟩
  ·have s27 := bv s13 hb14
   have s28 := p12.o (p9.o (p6.o s4 rfl) rfl) rfl
   refine s1g p12.z (okMv s28) rfl (yd p12.z rfl rfl s27) fun a29 p30 s31 => ?_
   have s32 := p30.o s27 rfl
   refine s1g p30.z (okLt s31 cst) rfl (yd p30.z rfl rfl s32) fun a33 p34 s35 => ?_
   have s36 := p34.o s32 rfl
   refine s1 p34.z (okPickT s36 s35) rfl fun a37 p38 s39 => ?_
   exact rN ⟨rfl, rfl, ((((Pg.refl p12.z).st p30 rfl).st p34 rfl).st p38 rfl), (andT hb14 s39)⟩
 rintro a40 ⟨pg41, s42⟩
 refine s1 pg41.z (okAs s42) rfl fun a43 p44 s45 => ?_
 refine rN (thenN ?_)
 obtain rfl := Option.some.inj h
 exact wp_ret (ret1 p44.z Try.results32 (rvT s45) ⟨_, rfl, rfl, c0.g⟩)

set_option maxHeartbeats 4000000 in
set_option maxRecDepth 100000 in
theorem c24 (k : Nat) (L : List Nat) (w : World) (hL : ∀ b ∈ L, b < w.heap.size) (x0 : TIns) (r : Bool) (h : ins_May k x0 = some r) : Calls Try.prog 24 #[.agg (TIns.C x0).toArray] w (fun e w' => ∃ v, e = .returned v ∧ v = .bool r ∧ G [] w w') := by
 refine enterF Try.func24 rfl rfl fun a0 z0 A => ?_
 have s0_0 := A 0 (.agg (TIns.C x0).toArray) rfl
 clear A
 have c0 : Cx [] w L w := ⟨G.refl _ _, hL⟩
 unfold ins_May at h
 refine wp_seq ?_
 refine reg ?_
 refine lS (oBox (l := TIns.C x0) z0 s0_0 rfl rfl fun a1 w2 b3 p4 sp4 m5 g6 e7 => ?_)
 have f9 := c0.nw e7
 have cx8 := c0.al g6 m5
 refine s1 p4.z (okAs cst) rfl fun a10 p11 s12 => ?_
 refine rN (thenN ?_)
 refine wp_seq ?_
 refine wp_seq ?_
 obtain ⟨b26, hb27, h⟩ := Option.bind_eq_some_iff.1 h
 have s195 := p11.o sp4 rfl
 refine regJ (fun a' w' => Z Try.f24.ntmps a' ∧ a'.eval (.tmp 1) = ptr b3 0 ∧ a'.eval (.tmp 2) = .bool false ∧ a'.eval (.tmp 26) = .bool (b26 || ((x0.op == 7) && (decide (13 < x0.a)))) ∧ Bk w' b3 (TIns.C x0) 40 ∧ Cx [] w (b3 :: L) w' ∧ Tr (b3 :: L) w2 (b3 :: L) w') ?_ ?_
 ·refine regH (n := 20) [(1, fun w' => Cl w' b3 0 [.int .i64 x0.op]), (5, fun w' => Cl w' b3 0 [.int .i64 x0.op]), (12, fun w' => Cl w' b3 0 [.int .i64 x0.op]), (16, fun w' => Cl w' b3 1 [.int .i64 x0.a])] mixed rfl ?_
  have g196 := G.drew w2
  have cx197 := cx8.ca g196
  refine hTakeW (i := 0) rfl (by kernel_rfl) (by kernel_rfl) (by kernel_rfl) nrm (cond := fun _ => True) (.inl fun _ => trivial) p11.z (wN rfl) (fun _ _ => okFA (o' := 0) fo40_0 s195 rfl) trivial rfl fun a198 p199 sp199 => ?_
  have m200 := m5.g0 g196
  refine hTakeW (i := 1) rfl (by kernel_rfl) (by kernel_rfl) (by kernel_rfl) nrm (.inr (.head _)) p199.z (wN rfl) (fun _ h => okLd (j := 0) na3 sp199 h rfl rfl) (m200.clp rfl) rfl fun a201 p202 sp202 => ?_
  refine hTakeW (i := 2) rfl (by kernel_rfl) (by kernel_rfl) (by kernel_rfl) nrm (cond := fun _ => True) (.inl fun _ => trivial) p202.z (wN rfl) (fun _ _ => okLt sp202 cst) trivial rfl fun a203 p204 sp204 => ?_
  refine hTakeW (i := 3) rfl (by kernel_rfl) (by kernel_rfl) (by kernel_rfl) nrm (cond := fun _ => True) (.inl fun _ => trivial) p204.z (wN rfl) (fun _ _ => okMv sp204) trivial rfl fun a205 p206 sp206 => ?_
  rcases bf (decide (x0.op < 1)) with hb207 | hb207
  ·have s208 := bv sp206 hb207
   replace h := (ifN hb207).symm.trans hb27
   have s210 := p206.o (p204.o (p202.o (p199.o s195 rfl) rfl) rfl) rfl
   refine hTakeW (i := 4) rfl (by kernel_rfl) (by kernel_rfl) (by kernel_rfl) nrm (cond := fun _ => True) (.inl fun _ => trivial) p206.z (wG rfl (yd p206.z rfl rfl s208)) (fun _ _ => okFA (o' := 0) fo40_0 s210 rfl) trivial rfl fun a211 p212 sp212 => ?_
   have s213 := p212.o s208 rfl
   refine hTakeW (i := 5) rfl (by kernel_rfl) (by kernel_rfl) (by kernel_rfl) nrm (.inr (.tail _ (.head _))) p212.z (wG rfl (yd p212.z rfl rfl s213)) (fun _ h => okLd (j := 0) na3 sp212 h rfl rfl) (m200.clp rfl) rfl fun a214 p215 sp215 => ?_
   have s216 := p215.o s213 rfl
   obtain ⟨t217, ht218, h⟩ := Option.bind_eq_some_iff.1 h
   refine hOneG (i := 6) (by kernel_rfl) rfl (wG rfl (yd p215.z rfl rfl s216)) (oCall p215.z Try.call31 (ag0 ) (c31 (b3 :: L) w2.drew cx197.lt  _ ht218) rfl fun v222 a219 w220 hp223 p221 sp221 => ?_)
   obtain ⟨q224, g225⟩ := hp223
   have cx226 := cx197.ca g225
   refine ⟨⟨.inl (by kernel_rfl), .inr fun h => h.g0 g225, .inr fun h => h.g0 g225, .inr fun h => h.g0 g225, trivial⟩, ?_⟩
   have s227 := p221.o s216 rfl
   refine hTakeW (i := 7) rfl (by kernel_rfl) (by kernel_rfl) (by kernel_rfl) nrm (cond := fun _ => True) (.inl fun _ => trivial) p221.z (wG rfl (yd p221.z rfl rfl s227)) (fun _ _ => okLenR Try.underlying82 sp221 q224) trivial rfl fun a228 p229 sp229 => ?_
   have s230 := p229.o s227 rfl
   have s231 := p229.o (p221.o sp215 rfl) rfl
   refine hTakeW (i := 8) rfl (by kernel_rfl) (by kernel_rfl) (by kernel_rfl) nrm (cond := fun _ => True) (.inl fun _ => trivial) p229.z (wG rfl (yd p229.z rfl rfl s230)) (fun _ _ => okGe s231 sp229) trivial rfl fun a232 p233 sp233 => ?_
   have s234 := p233.o s230 rfl
   refine hTakeW (i := 9) rfl (by kernel_rfl) (by kernel_rfl) (by kernel_rfl) nrm (cond := fun _ => True) (.inl fun _ => trivial) p233.z (wN rfl) (fun _ _ => okPickF s234 sp233) trivial rfl fun a235 p236 sp236 => ?_
   obtain rfl := Option.some.inj h
   refine hTakeW (i := 10) rfl (by kernel_rfl) (by kernel_rfl) (by kernel_rfl) nrm (cond := fun _ => True) (.inl fun _ => trivial) p236.z (wN rfl) (fun _ _ => okMv sp236) trivial rfl fun a237 p238 sp238 => ?_
   rcases bf (decide ((t217.length : Int) ≤ x0.op)) with hb239 | hb239
   ·have s240 := bv sp238 hb239
    have s241 := p238.o (p236.o (p233.o (p229.o (p221.o (p215.o (p212.o s210 rfl) rfl) rfl) rfl) rfl) rfl) rfl
    refine hTakeW (i := 11) rfl (by kernel_rfl) (by kernel_rfl) (by kernel_rfl) nrm (cond := fun _ => True) (.inl fun _ => trivial) p238.z (wG rfl (yd p238.z rfl rfl s240)) (fun _ _ => okFA (o' := 0) fo40_0 s241 rfl) trivial rfl fun a242 p243 sp243 => ?_
    have s244 := p243.o s240 rfl
    have m245 := m200.g0 g225
    refine hTakeW (i := 12) rfl (by kernel_rfl) (by kernel_rfl) (by kernel_rfl) nrm (.inr (.tail _ (.tail _ (.head _)))) p243.z (wG rfl (yd p243.z rfl rfl s244)) (fun _ h => okLd (j := 0) na3 sp243 h rfl rfl) (m245.clp rfl) rfl fun a246 p247 sp247 => ?_
    have s248 := p247.o s244 rfl
    refine hTakeW (i := 13) rfl (by kernel_rfl) (by kernel_rfl) (by kernel_rfl) nrm (cond := fun _ => True) (.inl fun _ => trivial) p247.z (wG rfl (yd p247.z rfl rfl s248)) (fun _ _ => okEq sp247 cst) trivial rfl fun a249 p250 sp250 => ?_
    have s251 := p250.o s248 rfl
    refine hTakeW (i := 14) rfl (by kernel_rfl) (by kernel_rfl) (by kernel_rfl) nrm (cond := fun _ => True) (.inl fun _ => trivial) p250.z (wG rfl (yd p250.z rfl rfl s251)) (fun _ _ => okMv sp250) trivial rfl fun a252 p253 sp253 => ?_
    rcases bf (x0.op == 7) with hb254 | hb254
    ·have s255 := bv sp253 hb254
     refine hSkip (i := 15) rfl (by kernel_rfl) (by kernel_rfl) (by kernel_rfl) nrm rfl p253.z (yd p253.z rfl rfl s255) rfl rfl fun a256 p257 sp257 => ?_
     have s258 := p257.o s255 rfl
     refine hSkip (i := 16) rfl (by kernel_rfl) (by kernel_rfl) (by kernel_rfl) nrm rfl p257.z (yd p257.z rfl rfl s258) rfl rfl fun a259 p260 sp260 => ?_
     have s261 := p260.o s258 rfl
     refine hSkip (i := 17) rfl (by kernel_rfl) (by kernel_rfl) (by kernel_rfl) nrm rfl p260.z (yd p260.z rfl rfl s261) rfl rfl fun a262 p263 sp263 => ?_
     have s264 := p263.o (p260.o (p257.o (p253.o s251 rfl) rfl) rfl) rfl
     have s265 := p263.o s261 rfl
     refine hTakeW (i := 18) rfl (by kernel_rfl) (by kernel_rfl) (by kernel_rfl) nrm (cond := fun _ => True) (.inl fun _ => trivial) p263.z (wG rfl (yd p263.z rfl rfl s264)) (fun _ _ => okPickF s265 cst) trivial rfl fun a266 p267 sp267 => ?_
     have s268 := p267.o s264 rfl
     refine hTakeW (i := 19) rfl (by kernel_rfl) (by kernel_rfl) (by kernel_rfl) nrm (cond := fun _ => True) (.inl fun _ => trivial) p267.z (wN rfl) (fun _ _ => okPickF s268 sp267) trivial rfl fun a269 p270 sp270 => ?_
     have s271 := p270.o (p267.o (p263.o (p260.o (p257.o (p253.o (p250.o (p247.o (p243.o s241 rfl) rfl) rfl) rfl) rfl) rfl) rfl) rfl) rfl
     have s272 := p270.o (p267.o (p263.o (p260.o (p257.o (p253.o (p250.o (p247.o (p243.o (p238.o (p236.o (p233.o (p229.o (p221.o (p215.o (p212.o (p206.o (p204.o (p202.o (p199.o s12 rfl) rfl) rfl) rfl) rfl) rfl) rfl) rfl) rfl) rfl) rfl) rfl) rfl) rfl) rfl) rfl) rfl) rfl) rfl) rfl
     exact hDone (by kernel_rfl) ⟨rfl, p270.z, s271, s272, (bvE sp270 (by simp [hb207, hb239, hb254])), m245, cx226, (g196.t0.trans g225.t0)⟩
    ·have s273 := bv sp253 hb254
     have s274 := p253.o (p250.o (p247.o (p243.o s241 rfl) rfl) rfl) rfl
     refine hTakeW (i := 15) rfl (by kernel_rfl) (by kernel_rfl) (by kernel_rfl) nrm (cond := fun _ => True) (.inl fun _ => trivial) p253.z (wG rfl (yd p253.z rfl rfl s273)) (fun _ _ => okFA (o' := 1) fo40_1 s274 rfl) trivial rfl fun a275 p276 sp276 => ?_
     have s277 := p276.o s273 rfl
     refine hTakeW (i := 16) rfl (by kernel_rfl) (by kernel_rfl) (by kernel_rfl) nrm (.inr (.tail _ (.tail _ (.tail _ (.head _))))) p276.z (wG rfl (yd p276.z rfl rfl s277)) (fun _ h => okLd (j := 0) na3 sp276 h rfl rfl) (m245.clp rfl) rfl fun a278 p279 sp279 => ?_
     have s280 := p279.o s277 rfl
     refine hTakeW (i := 17) rfl (by kernel_rfl) (by kernel_rfl) (by kernel_rfl) nrm (cond := fun _ => True) (.inl fun _ => trivial) p279.z (wG rfl (yd p279.z rfl rfl s280)) (fun _ _ => okGt sp279 cst) trivial rfl fun a281 p282 sp282 => ?_
     have s283 := p282.o (p279.o (p276.o (p253.o s251 rfl) rfl) rfl) rfl
     have s284 := p282.o s280 rfl
     refine hTakeW (i := 18) rfl (by kernel_rfl) (by kernel_rfl) (by kernel_rfl) nrm (cond := fun _ => True) (.inl fun _ => trivial) p282.z (wG rfl (yd p282.z rfl rfl s283)) (fun _ _ => okPickT s284 sp282) trivial rfl fun a285 p286 sp286 => ?_
     have s287 := p286.o s283 rfl
     refine hTakeW (i := 19) rfl (by kernel_rfl) (by kernel_rfl) (by kernel_rfl) nrm (cond := fun _ => True) (.inl fun _ => trivial) p286.z (wN rfl) (fun _ _ => okPickF s287 sp286) trivial rfl fun a288 p289 sp289 => ?_
     have s290 := p289.o (p286.o (p282.o (p279.o (p276.o s274 rfl) rfl) rfl) rfl) rfl
     have s291 := p289.o (p286.o (p282.o (p279.o (p276.o (p253.o (p250.o (p247.o (p243.o (p238.o (p236.o (p233.o (p229.o (p221.o (p215.o (p212.o (p206.o (p204.o (p202.o (p199.o s12 rfl) rfl) rfl) rfl) rfl) rfl) rfl) rfl) rfl) rfl) rfl) rfl) rfl) rfl) rfl) rfl) rfl) rfl) rfl) rfl
     exact hDone (by kernel_rfl) ⟨rfl, p289.z, s290, s291, (bvE sp289 (by simp [hb207, hb239, hb254])), m245, cx226, (g196.t0.trans g225.t0)⟩
   ·have s292 := bv sp238 hb239
    refine hSkip (i := 11) rfl (by kernel_rfl) (by kernel_rfl) (by kernel_rfl) nrm rfl p238.z (yd p238.z rfl rfl s292) rfl rfl fun a293 p294 sp294 => ?_
    have s295 := p294.o s292 rfl
    refine hSkip (i := 12) rfl (by kernel_rfl) (by kernel_rfl) (by kernel_rfl) nrm rfl p294.z (yd p294.z rfl rfl s295) rfl rfl fun a296 p297 sp297 => ?_
    have s298 := p297.o s295 rfl
    refine hSkip (i := 13) rfl (by kernel_rfl) (by kernel_rfl) (by kernel_rfl) nrm rfl p297.z (yd p297.z rfl rfl s298) rfl rfl fun a299 p300 sp300 => ?_
    have s301 := p300.o s298 rfl
    refine hSkip (i := 14) rfl (by kernel_rfl) (by kernel_rfl) (by kernel_rfl) nrm rfl p300.z (yd p300.z rfl rfl s301) rfl rfl fun a302 p303 sp303 => ?_
    refine hSkip (i := 15) rfl (by kernel_rfl) (by kernel_rfl) (by kernel_rfl) nrm rfl p303.z (ydU p303.z rfl rfl sp303) rfl rfl fun a304 p305 sp305 => ?_
    have s306 := p305.o sp303 rfl
    refine hSkip (i := 16) rfl (by kernel_rfl) (by kernel_rfl) (by kernel_rfl) nrm rfl p305.z (ydU p305.z rfl rfl s306) rfl rfl fun a307 p308 sp308 => ?_
    have s309 := p308.o s306 rfl
    refine hSkip (i := 17) rfl (by kernel_rfl) (by kernel_rfl) (by kernel_rfl) nrm rfl p308.z (ydU p308.z rfl rfl s309) rfl rfl fun a310 p311 sp311 => ?_
    have s312 := p311.o (p308.o (p305.o (p303.o s301 rfl) rfl) rfl) rfl
    refine hSkip (i := 18) rfl (by kernel_rfl) (by kernel_rfl) (by kernel_rfl) nrm rfl p311.z (yd p311.z rfl rfl s312) rfl rfl fun a313 p314 sp314 => ?_
    have s315 := p314.o s312 rfl
    refine hTakeW (i := 19) rfl (by kernel_rfl) (by kernel_rfl) (by kernel_rfl) nrm (cond := fun _ => True) (.inl fun _ => trivial) p314.z (wN rfl) (fun _ _ => okPickT s315 cst) trivial rfl fun a316 p317 sp317 => ?_
    have s318 := p317.o (p314.o (p311.o (p308.o (p305.o (p303.o (p300.o (p297.o (p294.o (p238.o (p236.o (p233.o (p229.o (p221.o (p215.o (p212.o s210 rfl) rfl) rfl) rfl) rfl) rfl) rfl) rfl) rfl) rfl) rfl) rfl) rfl) rfl) rfl) rfl
    have s319 := p317.o (p314.o (p311.o (p308.o (p305.o (p303.o (p300.o (p297.o (p294.o (p238.o (p236.o (p233.o (p229.o (p221.o (p215.o (p212.o (p206.o (p204.o (p202.o (p199.o s12 rfl) rfl) rfl) rfl) rfl) rfl) rfl) rfl) rfl) rfl) rfl) rfl) rfl) rfl) rfl) rfl) rfl) rfl) rfl) rfl
    have m320 := m200.g0 g225
    exact hDone (by kernel_rfl) ⟨rfl, p317.z, s318, s319, (bvE sp317 (by simp [hb207, hb239])), m320, cx226, (g196.t0.trans g225.t0)⟩
  ·have s321 := bv sp206 hb207
   replace h := (ifP hb207).symm.trans hb27
   refine hSkip (i := 4) rfl (by kernel_rfl) (by kernel_rfl) (by kernel_rfl) nrm rfl p206.z (yd p206.z rfl rfl s321) rfl rfl fun a323 p324 sp324 => ?_
   have s325 := p324.o s321 rfl
   refine hSkip (i := 5) rfl (by kernel_rfl) (by kernel_rfl) (by kernel_rfl) nrm rfl p324.z (yd p324.z rfl rfl s325) rfl rfl fun a326 p327 sp327 => ?_
   have s328 := p327.o s325 rfl
   refine hOneK (i := 6) (by kernel_rfl) rfl p327.z (yd p327.z rfl rfl s328) rfl rfl fun a329 p330 sp330 => ?_
   have s331 := p330.o s328 rfl
   refine hSkip (i := 7) rfl (by kernel_rfl) (by kernel_rfl) (by kernel_rfl) nrm rfl p330.z (yd p330.z rfl rfl s331) rfl rfl fun a332 p333 sp333 => ?_
   have s334 := p333.o s331 rfl
   refine hSkip (i := 8) rfl (by kernel_rfl) (by kernel_rfl) (by kernel_rfl) nrm rfl p333.z (yd p333.z rfl rfl s334) rfl rfl fun a335 p336 sp336 => ?_
   have s337 := p336.o s334 rfl
   refine hTakeW (i := 9) rfl (by kernel_rfl) (by kernel_rfl) (by kernel_rfl) nrm (cond := fun _ => True) (.inl fun _ => trivial) p336.z (wN rfl) (fun _ _ => okPickT s337 cst) trivial rfl fun a338 p339 sp339 => ?_
   obtain rfl := Option.some.inj h
   refine hTakeW (i := 10) rfl (by kernel_rfl) (by kernel_rfl) (by kernel_rfl) nrm (cond := fun _ => True) (.inl fun _ => trivial) p339.z (wN rfl) (fun _ _ => okMv sp339) trivial rfl fun a340 p341 sp341 => ?_
   refine hSkip (i := 11) rfl (by kernel_rfl) (by kernel_rfl) (by kernel_rfl) nrm rfl p341.z (yd p341.z rfl rfl sp341) rfl rfl fun a342 p343 sp343 => ?_
   have s344 := p343.o sp341 rfl
   refine hSkip (i := 12) rfl (by kernel_rfl) (by kernel_rfl) (by kernel_rfl) nrm rfl p343.z (yd p343.z rfl rfl s344) rfl rfl fun a345 p346 sp346 => ?_
   have s347 := p346.o s344 rfl
   refine hSkip (i := 13) rfl (by kernel_rfl) (by kernel_rfl) (by kernel_rfl) nrm rfl p346.z (yd p346.z rfl rfl s347) rfl rfl fun a348 p349 sp349 => ?_
   have s350 := p349.o s347 rfl
   refine hSkip (i := 14) rfl (by kernel_rfl) (by kernel_rfl) (by kernel_rfl) nrm rfl p349.z (yd p349.z rfl rfl s350) rfl rfl fun a351 p352 sp352 => ?_
   refine hSkip (i := 15) rfl (by kernel_rfl) (by kernel_rfl) (by kernel_rfl) nrm rfl p352.z (ydU p352.z rfl rfl sp352) rfl rfl fun a353 p354 sp354 => ?_
   have s355 := p354.o sp352 rfl
   refine hSkip (i := 16) rfl (by kernel_rfl) (by kernel_rfl) (by kernel_rfl) nrm rfl p354.z (ydU p354.z rfl rfl s355) rfl rfl fun a356 p357 sp357 => ?_
   have s358 := p357.o s355 rfl
   refine hSkip (i := 17) rfl (by kernel_rfl) (by kernel_rfl) (by kernel_rfl) nrm rfl p357.z (ydU p357.z rfl rfl s358) rfl rfl fun a359 p360 sp360 => ?_
   have s361 := p360.o (p357.o (p354.o (p352.o s350 rfl) rfl) rfl) rfl
   refine hSkip (i := 18) rfl (by kernel_rfl) (by kernel_rfl) (by kernel_rfl) nrm rfl p360.z (yd p360.z rfl rfl s361) rfl rfl fun a362 p363 sp363 => ?_
   have s364 := p363.o s361 rfl
   refine hTakeW (i := 19) rfl (by kernel_rfl) (by kernel_rfl) (by kernel_rfl) nrm (cond := fun _ => True) (.inl fun _ => trivial) p363.z (wN rfl) (fun _ _ => okPickT s364 cst) trivial rfl fun a365 p366 sp366 => ?_
   have s367 := p366.o (p363.o (p360.o (p357.o (p354.o (p352.o (p349.o (p346.o (p343.o (p341.o (p339.o (p336.o (p333.o (p330.o (p327.o (p324.o (p206.o (p204.o (p202.o (p199.o s195 rfl) rfl) rfl) rfl) rfl) rfl) rfl) rfl) rfl) rfl) rfl) rfl) rfl) rfl) rfl) rfl) rfl) rfl) rfl) rfl
   have s368 := p366.o (p363.o (p360.o (p357.o (p354.o (p352.o (p349.o (p346.o (p343.o (p341.o (p339.o (p336.o (p333.o (p330.o (p327.o (p324.o (p206.o (p204.o (p202.o (p199.o s12 rfl) rfl) rfl) rfl) rfl) rfl) rfl) rfl) rfl) rfl) rfl) rfl) rfl) rfl) rfl) rfl) rfl) rfl) rfl) rfl
   exact hDone (by kernel_rfl) ⟨rfl, p366.z, s367, s368, (bvE sp366 (by simp [hb207])), m200, cx197, g196.t0⟩
 rintro a369 w370 ⟨z371, s372, s373, s374, m375, cx376, t377⟩
 refine thenN ?_
 refine cnd s374 (fun hb378 => ?_) (fun hb378 => ?_)
 ·replace h := (ifP hb378).symm.trans h
  refine wp_seq ?_
  refine reg ?_
  refine s1 z371 (okAs cst) rfl fun a379 p380 s381 => ?_
  refine rN (thenN ?_)
  obtain rfl := Option.some.inj h
  exact wp_ret (thenR (ret1 p380.z Try.results24 (rvT s381) ⟨_, rfl, rfl, cx376.g⟩))
 replace h := (ifN hb378).symm.trans h
 refine wp_skip (thenN ?_)
 refine wp_seq ?_
 refine reg ?_
 refine s1 z371 (okLdA ag40 s372 (m375.cl) rfl rfl whole) rfl fun a382 p383 s384 => ?_
 refine lS (oAlloc zv40 p383.z rfl fun a385 w386 b387 p388 sp388 m389 g390 e391 => ?_)
 have f393 := cx376.nw e391
 have cx392 := cx376.al g390 m389
 have s394 := p388.o s384 rfl
 refine lS (oStoW (cs := TIns.C x0) p388.z sp388 s394 m389 Try.sizeOf40 rfl (TIns.C_one _) rfl fun w395 m396 g397 => ?_)
 have cx398 := cx392.st g397 f393
 refine rN (thenN ?_)
 refine wp_seq ?_
 refine wp_seq ?_
 obtain ⟨t399, ht400, h⟩ := Option.bind_eq_some_iff.1 h
 obtain ⟨y418, hy419, h⟩ := Option.bind_eq_some_iff.1 h
 have s446 := p388.o (p383.o s372 rfl) rfl
 have s447 := p388.o (p383.o s373 rfl) rfl
 have m448 := (m375.g0 g390).g1 g397 (m375.ne e391)
 refine regJ (fun a' w' => ∃ b438 : Nat, Z Try.f24.ntmps a' ∧ a'.eval (.tmp 1) = ptr b3 0 ∧ a'.eval (.tmp 2) = .bool false ∧ a'.eval (.tmp 3) = ptr b387 0 ∧ a'.eval (.tmp 34) = ptr b438 0 ∧ Bk w' b3 (TIns.C x0) 40 ∧ Bk w' b387 (TIns.C x0) 40 ∧ It w' b438 y418.has 0 ∧ Cx [] w (b438 :: b387 :: b3 :: L) w' ∧ Tr (b387 :: b3 :: L) w395 (b438 :: b387 :: b3 :: L) w' ∧ b3 ≠ b438 ∧ b387 ≠ b438 ∧ w.heap.size ≤ b438) ?_ ?_
 ·refine regH (n := 7) [(2, fun w' => Cl w' b3 0 [.int .i64 x0.op])] mixed rfl ?_
  have g449 := G.drew w395
  have cx450 := cx398.ca g449
  refine hTakeW (i := 1) rfl (by kernel_rfl) (by kernel_rfl) (by kernel_rfl) nrm (cond := fun _ => True) (.inl fun _ => trivial) p388.z (wN rfl) (fun _ _ => okFA (o' := 0) fo40_0 s446 rfl) trivial rfl fun a451 p452 sp452 => ?_
  have m453 := m448.g0 g449
  refine hTakeW (i := 2) rfl (by kernel_rfl) (by kernel_rfl) (by kernel_rfl) nrm (.inr (.head _)) p452.z (wN rfl) (fun _ h => okLd (j := 0) na3 sp452 h rfl rfl) (m453.clp rfl) rfl fun a454 p455 sp455 => ?_
  refine hOne (i := 0) (by kernel_rfl) rfl (oCall p455.z Try.call31 (ag0 ) (c31 (b387 :: b3 :: L) w395.drew cx450.lt  _ ht400) rfl fun v459 a456 w457 hp460 p458 sp458 => ?_)
  obtain ⟨q461, g462⟩ := hp460
  have cx463 := cx450.ca g462
  refine ⟨⟨.inr fun h => h.g0 g462, trivial⟩, ?_⟩
  have s464 := p458.o sp455 rfl
  obtain ⟨b465, o466, cs467, r469, e470, nb471, k468⟩ := q461.at_ hy419
  obtain rfl := r469
  refine hOne (i := 3) (by kernel_rfl) rfl (oOk p458.z (k468 Try.underlying82 Try.sizeOf85 sp458 s464 _) rfl fun a472 p473 s474 => ?_)
  refine ⟨⟨.inr id, trivial⟩, ?_⟩
  refine hTakeW (i := 4) rfl (by kernel_rfl) (by kernel_rfl) (by kernel_rfl) nrm (cond := fun _ => True) (.inl fun _ => trivial) p473.z (wN rfl) (fun _ _ => okFA (o' := o466 + 1) fo85_1 s474 rfl) trivial rfl fun a475 p476 sp476 => ?_
  refine hOne (i := 5) (by kernel_rfl) rfl (oOk p476.z (okLd (j := 1) na9 sp476 e470 rfl rfl) rfl fun a477 p478 s479 => ?_)
  refine ⟨⟨.inr id, trivial⟩, ?_⟩
  have m487 := m453.g0 g462
  have m488 := (m396.g0 g449).g0 g462
  refine hOne (i := 6) (by kernel_rfl) rfl (oRng Try.underlying9 p478.z s479 rfl fun a480 w481 b482 p483 sp483 m484 g485 e486 => ?_)
  have f490 := cx463.nw e486
  have cx489 := cx463.alI g485 m484
  refine ⟨⟨.inr fun h => h.g0 g485, trivial⟩, ?_⟩
  have s491 := p483.o (p478.o (p476.o (p473.o (p458.o (p455.o (p452.o s446 rfl) rfl) rfl) rfl) rfl) rfl) rfl
  have s492 := p483.o (p478.o (p476.o (p473.o (p458.o (p455.o (p452.o s447 rfl) rfl) rfl) rfl) rfl) rfl) rfl
  have s493 := p483.o (p478.o (p476.o (p473.o (p458.o (p455.o (p452.o sp388 rfl) rfl) rfl) rfl) rfl) rfl) rfl
  have m494 := m487.g0 g485
  have m495 := m488.g0 g485
  exact hDone (by kernel_rfl) ⟨rfl, b482, p483.z, s491, s492, s493, sp483, m494, m495, m484, cx489, ((g449.t0.trans g462.t0).trans (g485.tA (Nat.le_of_eq e486.symm))), (m487.ne e486), (m488.ne e486), f490⟩
 rintro a496 w497 ⟨b499, z498, s500, s501, s502, s503, m504, m505, m506, cx507, t508, n509, n510, n511⟩
 refine thenN ?_
 refine wp_block ?_
 obtain ⟨o517, ho518, h⟩ := Option.bind_eq_some_iff.1 h
 refine loopX (I := (fun k' a' w' => ∃ i512 i513 i514 i515 i516, Z Try.f24.ntmps a' ∧ a'.eval (.tmp 1) = ptr b3 0 ∧ a'.eval (.tmp 2) = .bool false ∧ a'.eval (.tmp 3) = ptr b387 0 ∧ a'.eval (.tmp 34) = ptr b499 0 ∧ Bk w' b3 (TIns.C x0) 40 ∧ Bk w' b387 (TIns.C (⟨x0.op, i512, i513, i514, i515⟩ : TIns)) 40 ∧ It w' b499 y418.has i516 ∧ Cx [] w (b499 :: b387 :: b3 :: L) w' ∧ ins_May.l0 x0 y418 k' i512 i513 i514 i515 i516 = some o517)) 0 (fun a' w' => ∃ g519, o517 = .go g519 ∧ Z Try.f24.ntmps a' ∧ a'.eval (.tmp 1) = ptr b3 0 ∧ a'.eval (.tmp 2) = .bool false ∧ a'.eval (.tmp 3) = ptr b387 0 ∧ Bk w' b3 (TIns.C x0) 40 ∧ Bk w' b387 (TIns.C (⟨x0.op, g519.1, g519.2.1, g519.2.2.1, g519.2.2.2.1⟩ : TIns)) 40 ∧ It w' b499 y418.has g519.2.2.2.2 ∧ Cx [] w (b499 :: b387 :: b3 :: L) w') ⟨x0.a, x0.b, x0.c, x0.n, 0, z498, s500, s501, s502, s503, m504, m505, m506, cx507, ho518⟩ ?_ ?_
 ·have oh532 := h; clear h ho518
  rintro k520 a521 w522 ⟨i512, i513, i514, i515, i516, z523, s524, s525, s526, s527, m528, m529, m530, cx531, h⟩
  obtain _ | k := k520
  case zero => cases h
  rw [ins_May.l0] at h
  refine wp_seq ?_
  refine reg ?_
  by_cases hb533 : i516 < y418.has.length
  ·replace h := (if_pos hb533).symm.trans h
   obtain ⟨cx534, hc535, h⟩ := Option.bind_eq_some_iff.1 h
   refine lS (oNext z523 s527 m530 hc535 rfl fun a536 w537 p538 sp538 m539 g540 => ?_)
   have cx541 := cx531.st g540 n511
   refine s1 p538.z (okExt (vs := [_, _, _]) sp538 rfl) rfl fun a542 p543 s544 => ?_
   refine rN (thenN ?_)
   refine wp_seq ?_
   refine wp_cond_true s544 ?_
   refine wp_skip (thenN ?_)
   refine wp_block ?_
   refine wp_seq ?_
   refine reg ?_
   have s545 := p543.o sp538 rfl
   refine s1 p543.z (okExt (vs := [_, _, _]) s545 rfl) rfl fun a546 p547 s548 => ?_
   refine s1 p547.z (okAs s548) rfl fun a549 p550 s551 => ?_
   refine rN (thenN ?_)
   refine wp_seq ?_
   refine reg ?_
   refine s1 p550.z (okMv s551) rfl fun a552 p553 s554 => ?_
   refine rN (thenN ?_)
   refine wp_block ?_
   refine wp_seq ?_
   refine reg ?_
   refine s1 p553.z (okEq s554 cst) rfl fun a555 p556 s557 => ?_
   refine s1 p556.z (okAs s557) rfl fun a558 p559 s560 => ?_
   refine rN (thenN ?_)
   have s561 := p559.o (p556.o (p553.o (p550.o (p547.o s545 rfl) rfl) rfl) rfl) rfl
   have s562 := p559.o (p556.o (p553.o (p550.o (p547.o s544 rfl) rfl) rfl) rfl) rfl
   have s563 := p559.o (p556.o (p553.o (p550.o s548 rfl) rfl) rfl) rfl
   have s564 := p559.o (p556.o (p553.o s551 rfl) rfl) rfl
   have s565 := p559.o (p556.o s554 rfl) rfl
   have s566 := p559.o s557 rfl
   have pg567 : Pg _ [5, 35, 36, 37, 38, 40, 41] _ _ := ((((((((Pg.refl z523).st p538 rfl).st p543 rfl).st p547 rfl).st p550 rfl).st p553 rfl).st p556 rfl).st p559 rfl)
   refine cnd s560 (fun hb568 => ?_) (fun hb568 => ?_)
   ·replace h := (ifP hb568).symm.trans h
    refine reg ?_
    have s569 := pg567.o s526 rfl
    refine s1 pg567.z (okFA (o' := 1) fo40_1 s569 rfl) rfl fun a570 p571 s572 => ?_
    have m573 := m529.g1 g540 n510
    refine lS (oSto (cs := [.int .i64 0]) (l' := TIns.C (⟨x0.op, 0, i513, i514, i515⟩ : TIns)) p571.z s572 cst m573 Try.sizeOf3 rfl one1 rfl rfl fun w574 m575 g576 => ?_)
    have cx577 := cx541.st g576 f393
    have s578 := p571.o (pg567.o s524 rfl) rfl
    have s579 := p571.o (pg567.o s525 rfl) rfl
    have s580 := p571.o s569 rfl
    have s581 := p571.o (pg567.o s527 rfl) rfl
    have m582 := (m528.g1 g540 n509).g1 g576 (m375.ne e391)
    have m583 := m539.g1 g576 n510.symm
    exact rN (blkN (blkN (thenN ⟨k, Nat.lt_succ_self k, 0, i513, i514, i515, (i516 + 1), p571.z, s578, s579, s580, s581, m582, m575, m583, cx577, h⟩)))
   replace h := (ifN hb568).symm.trans h
   refine wp_seq ?_
   refine reg ?_
   refine s1 pg567.z (okEq s565 cst) rfl fun a584 p585 s586 => ?_
   refine s1 p585.z (okAs s586) rfl fun a587 p588 s589 => ?_
   refine rN (thenN ?_)
   refine cnd s589 (fun hb590 => ?_) (fun hb590 => ?_)
   ·replace h := (ifP hb590).symm.trans h
    refine reg ?_
    have s591 := p588.o (p585.o (pg567.o s526 rfl) rfl) rfl
    refine s1 p588.z (okFA (o' := 2) fo40_2 s591 rfl) rfl fun a592 p593 s594 => ?_
    have m595 := m529.g1 g540 n510
    refine lS (oSto (cs := [.int .i64 0]) (l' := TIns.C (⟨x0.op, i512, 0, i514, i515⟩ : TIns)) p593.z s594 cst m595 Try.sizeOf3 rfl one1 rfl rfl fun w596 m597 g598 => ?_)
    have cx599 := cx541.st g598 f393
    have s600 := p593.o (p588.o (p585.o (pg567.o s524 rfl) rfl) rfl) rfl
    have s601 := p593.o (p588.o (p585.o (pg567.o s525 rfl) rfl) rfl) rfl
    have s602 := p593.o s591 rfl
    have s603 := p593.o (p588.o (p585.o (pg567.o s527 rfl) rfl) rfl) rfl
    have m604 := (m528.g1 g540 n509).g1 g598 (m375.ne e391)
    have m605 := m539.g1 g598 n510.symm
    exact rN (blkN (blkN (thenN ⟨k, Nat.lt_succ_self k, i512, 0, i514, i515, (i516 + 1), p593.z, s600, s601, s602, s603, m604, m597, m605, cx599, h⟩)))
   replace h := (ifN hb590).symm.trans h
   refine wp_seq ?_
   refine reg ?_
   have s606 := p588.o (p585.o s565 rfl) rfl
   refine s1 p588.z (okEq s606 cst) rfl fun a607 p608 s609 => ?_
   refine s1 p608.z (okAs s609) rfl fun a610 p611 s612 => ?_
   refine rN (thenN ?_)
   have s613 := p611.o (p608.o s606 rfl) rfl
   have s614 := p611.o (p608.o (p588.o s586 rfl) rfl) rfl
   have s615 := p611.o (p608.o s589 rfl) rfl
   have s616 := p611.o s609 rfl
   have pg617 : Pg _ [43, 44, 46, 47] _ _ := (((((Pg.refl pg567.z).st p585 rfl).st p588 rfl).st p608 rfl).st p611 rfl)
   refine cnd s612 (fun hb618 => ?_) (fun hb618 => ?_)
   ·replace h := (ifP hb618).symm.trans h
    refine reg ?_
    have s619 := pg617.o (pg567.o s526 rfl) rfl
    refine s1 pg617.z (okFA (o' := 3) fo40_3 s619 rfl) rfl fun a620 p621 s622 => ?_
    have m623 := m529.g1 g540 n510
    refine lS (oSto (cs := [.int .i64 0]) (l' := TIns.C (⟨x0.op, i512, i513, 0, i515⟩ : TIns)) p621.z s622 cst m623 Try.sizeOf3 rfl one1 rfl rfl fun w624 m625 g626 => ?_)
    have cx627 := cx541.st g626 f393
    have s628 := p621.o (pg617.o (pg567.o s524 rfl) rfl) rfl
    have s629 := p621.o (pg617.o (pg567.o s525 rfl) rfl) rfl
    have s630 := p621.o s619 rfl
    have s631 := p621.o (pg617.o (pg567.o s527 rfl) rfl) rfl
    have m632 := (m528.g1 g540 n509).g1 g626 (m375.ne e391)
    have m633 := m539.g1 g626 n510.symm
    exact rN (blkN (blkN (thenN ⟨k, Nat.lt_succ_self k, i512, i513, 0, i515, (i516 + 1), p621.z, s628, s629, s630, s631, m632, m625, m633, cx627, h⟩)))
   replace h := (ifN hb618).symm.trans h
   refine wp_seq ?_
   refine reg ?_
   refine s1 pg617.z (okEq s613 cst) rfl fun a634 p635 s636 => ?_
   refine s1 p635.z (okAs s636) rfl fun a637 p638 s639 => ?_
   refine rN (thenN ?_)
   refine cnd s639 (fun hb640 => ?_) (fun hb640 => ?_)
   ·replace h := (ifP hb640).symm.trans h
    refine wp_seq ?_
    refine wp_seq ?_
    refine reg ?_
    have s641 := p638.o (p635.o (pg617.o (pg567.o s524 rfl) rfl) rfl) rfl
    refine s1 p638.z (okFA (o' := 4) fo40_4 s641 rfl) rfl fun a642 p643 s644 => ?_
    have m645 := m528.g1 g540 n509
    refine s1 p643.z (okLd (j := 4) na2 s644 (m645.cl) rfl rfl) rfl fun a646 p647 s648 => ?_
    refine s1 p647.z (okLt s648 cst) rfl fun a649 p650 s651 => ?_
    refine s1 p650.z (okMv s651) rfl fun a652 p653 s654 => ?_
    refine cutP 4 (fun a' => Pg Try.f24.ntmps [55, 56, 57, 58] a652 a' ∧ a'.eval (.tmp 58) = .bool ((decide (x0.n < (-999999999999999999))) || (decide (999999999999999999 < x0.n)))) ?_ ?_
    ·rcases bf (decide (x0.n < (-999999999999999999))) with hb655 | hb655
     ·have s656 := bv s654 hb655
      have s657 := p653.o (p650.o (p647.o (p643.o s641 rfl) rfl) rfl) rfl
      refine s1g p653.z (okFA (o' := 4) fo40_4 s657 rfl) rfl (yd p653.z rfl rfl s656) fun a658 p659 s660 => ?_
      have s661 := p659.o s656 rfl
      refine s1g p659.z (okLd (j := 4) na2 s660 (m645.cl) rfl rfl) rfl (yd p659.z rfl rfl s661) fun a662 p663 s664 => ?_
      have s665 := p663.o s661 rfl
      refine s1g p663.z (okGt s664 cst) rfl (yd p663.z rfl rfl s665) fun a666 p667 s668 => ?_
      have s669 := p667.o s665 rfl
      refine s1 p667.z (okPickF s669 s668) rfl fun a670 p671 s672 => ?_
      exact rN ⟨rfl, rfl, (((((Pg.refl p653.z).st p659 rfl).st p663 rfl).st p667 rfl).st p671 rfl), (orF hb655 s672)⟩
     ·have s673 := bv s654 hb655
      refine s1k p653.z rfl (yd p653.z rfl rfl s673) rfl fun a674 p675 s676 => ?_
      have s677 := p675.o s673 rfl
      refine s1k p675.z rfl (yd p675.z rfl rfl s677) rfl fun a678 p679 s680 => ?_
      have s681 := p679.o s677 rfl
      refine s1k p679.z rfl (yd p679.z rfl rfl s681) rfl fun a682 p683 s684 => ?_
      have s685 := p683.o s681 rfl
      refine s1 p683.z (okPickT s685 cst) rfl fun a686 p687 s688 => ?_
      exact rN ⟨rfl, rfl, (((((Pg.refl p653.z).st p675 rfl).st p679 rfl).st p683 rfl).st p687 rfl), (orT hb655 s688)⟩
    rintro a689 ⟨pg690, s691⟩
    refine rN (thenN ?_)
    have s692 := pg690.o (p653.o (p650.o (p647.o (p643.o s641 rfl) rfl) rfl) rfl) rfl
    have s693 := pg690.o (p653.o (p650.o (p647.o (p643.o (p638.o s636 rfl) rfl) rfl) rfl) rfl) rfl
    have s694 := pg690.o (p653.o (p650.o (p647.o (p643.o s639 rfl) rfl) rfl) rfl) rfl
    have s695 := pg690.o (p653.o (p650.o (p647.o s644 rfl) rfl) rfl) rfl
    have s696 := pg690.o (p653.o (p650.o s648 rfl) rfl) rfl
    have s697 := pg690.o (p653.o s651 rfl) rfl
    have s698 := pg690.o s654 rfl
    have pg699 : Pg _ [49, 50, 51, 52, 53, 54, 55, 56, 57, 58] _ _ := ((((((((Pg.refl pg617.z).st p635 rfl).st p638 rfl).st p643 rfl).st p647 rfl).st p650 rfl).st p653 rfl).tr pg690 rfl)
    refine cnd s691 (fun hb700 => ?_) (fun hb700 => ?_)
    ·replace h := (ifP hb700).symm.trans h
     refine wp_seq ?_
     refine reg ?_
     refine s1 pg699.z (okAs cst) rfl fun a701 p702 s703 => ?_
     refine rN (thenN ?_)
     obtain rfl := Option.some.inj h
     obtain rfl := Option.some.inj oh532
     exact wp_ret (thenR (blkR (blkR (thenR (jqR (blkR (thenR (ret1 p702.z Try.results24 (rvT s703) ⟨_, rfl, rfl, cx541.g⟩))))))))
    replace h := (ifN hb700).symm.trans h
    refine wp_skip (thenN ?_)
    refine reg ?_
    have s704 := pg699.o (pg617.o (pg567.o s526 rfl) rfl) rfl
    refine s1 pg699.z (okFA (o' := 4) fo40_4 s704 rfl) rfl fun a705 p706 s707 => ?_
    have m708 := m529.g1 g540 n510
    refine lS (oSto (cs := [.int .i64 0]) (l' := TIns.C (⟨x0.op, i512, i513, i514, 0⟩ : TIns)) p706.z s707 cst m708 Try.sizeOf2 rfl one1 rfl rfl fun w709 m710 g711 => ?_)
    have cx712 := cx541.st g711 f393
    have s713 := p706.o s692 rfl
    have s714 := p706.o (pg699.o (pg617.o (pg567.o s525 rfl) rfl) rfl) rfl
    have s715 := p706.o s704 rfl
    have s716 := p706.o (pg699.o (pg617.o (pg567.o s527 rfl) rfl) rfl) rfl
    have m717 := m645.g1 g711 (m375.ne e391)
    have m718 := m539.g1 g711 n510.symm
    exact rN (blkN (blkN (thenN ⟨k, Nat.lt_succ_self k, i512, i513, i514, 0, (i516 + 1), p706.z, s713, s714, s715, s716, m717, m710, m718, cx712, h⟩)))
   replace h := (ifN hb640).symm.trans h
   refine reg ?_
   have s719 := p638.o (p635.o (pg617.o (pg567.o s526 rfl) rfl) rfl) rfl
   refine s1 p638.z (okFA (o' := 4) fo40_4 s719 rfl) rfl fun a720 p721 s722 => ?_
   have m723 := m529.g1 g540 n510
   refine lS (oSto (cs := [.int .i64 0]) (l' := TIns.C (⟨x0.op, i512, i513, i514, 0⟩ : TIns)) p721.z s722 cst m723 Try.sizeOf2 rfl one1 rfl rfl fun w724 m725 g726 => ?_)
   have cx727 := cx541.st g726 f393
   have s728 := p721.o (p638.o (p635.o (pg617.o (pg567.o s524 rfl) rfl) rfl) rfl) rfl
   have s729 := p721.o (p638.o (p635.o (pg617.o (pg567.o s525 rfl) rfl) rfl) rfl) rfl
   have s730 := p721.o s719 rfl
   have s731 := p721.o (p638.o (p635.o (pg617.o (pg567.o s527 rfl) rfl) rfl) rfl) rfl
   have m732 := (m528.g1 g540 n509).g1 g726 (m375.ne e391)
   have m733 := m539.g1 g726 n510.symm
   exact rN (blkN (blkN (thenN ⟨k, Nat.lt_succ_self k, i512, i513, i514, 0, (i516 + 1), p721.z, s728, s729, s730, s731, m732, m725, m733, cx727, h⟩)))
  ·replace h := (if_neg hb533).symm.trans h
   refine lS (oNextE z523 s527 m530 hb533 rfl fun a734 p735 sp735 => ?_)
   refine s1 p735.z (okExt (vs := [_]) sp735 rfl) rfl fun a736 p737 s738 => ?_
   refine rN (thenN ?_)
   refine wp_seq ?_
   refine wp_cond_false s738 ?_
   obtain rfl := Option.some.inj h
   have s739 := p737.o (p735.o s524 rfl) rfl
   have s740 := p737.o (p735.o s525 rfl) rfl
   have s741 := p737.o (p735.o s526 rfl) rfl
   exact wp_exit (thenE (thenE (jqE ⟨_, rfl, p737.z, s739, s740, s741, m528, m529, m530, cx531⟩)))
 clear ho518
 rintro a742 w743 ⟨g519, rfl, z744, s745, s746, s747, m748, m749, m750, cx751⟩
 refine blkE (thenN ?_)
 refine wp_seq ?_
 refine reg ?_
 refine s1 z744 (okAs rfl) rfl fun a752 p753 s754 => ?_
 refine rN (thenN ?_)
 refine wp_seq ?_
 refine reg ?_
 have s755 := p753.o s747 rfl
 refine s1 p753.z (okLdA ag40 s755 (m749.cl) rfl rfl whole) rfl fun a756 p757 s758 => ?_
 have s759 := p757.o (p753.o s745 rfl) rfl
 refine s1 p757.z (okFA (o' := 0) fo40_0 s759 rfl) rfl fun a760 p761 s762 => ?_
 refine s1 p761.z (okLd (j := 0) na3 s762 (m748.cl) rfl rfl) rfl fun a763 p764 s765 => ?_
 refine s1 p764.z (okBd (pb1 s765) (bd40_0 x0.op _)) rfl fun a766 p767 s768 => ?_
 have s769 := p767.o (p764.o (p761.o s758 rfl) rfl) rfl
 refine s1 p767.z (okSEq Try.eqGuardType40 s769 s768 (fun w => eq40 9998 w (⟨x0.op, g519.1, g519.2.1, g519.2.2.1, g519.2.2.2.1⟩ : TIns) (⟨x0.op, 0, 0, 0, 0⟩ : TIns))) rfl fun a770 p771 s772 => ?_
 refine s1 p771.z (okMv s772) rfl fun a773 p774 s775 => ?_
 obtain ⟨b776, hb777, h⟩ := Option.bind_eq_some_iff.1 h
 refine cutL 5 (fun a' w' => Pg Try.f24.ntmps [66, 67, 68, 69, 70] a773 a' ∧ a'.eval (.tmp 70) = .bool b776 ∧ G [] w743 w') ?_ ?_
 ·rcases bf ((⟨x0.op, g519.1, g519.2.1, g519.2.2.1, g519.2.2.2.1⟩ : TIns).eqb (⟨x0.op, 0, 0, 0, 0⟩ : TIns)) with hb778 | hb778
  ·have s779 := bv s775 hb778
   replace hb777 := (ifN hb778).symm.trans hb777
   clear h; have h := hb777; clear hb777
   refine s1k p774.z rfl (yd p774.z rfl rfl s779) rfl fun a780 p781 s782 => ?_
   have s783 := p781.o s779 rfl
   refine s1k p781.z rfl (yd p781.z rfl rfl s783) rfl fun a784 p785 s786 => ?_
   have s787 := p785.o s783 rfl
   refine s1k p785.z rfl (yd p785.z rfl rfl s787) rfl fun a788 p789 s790 => ?_
   have s791 := p789.o s787 rfl
   refine s1k p789.z rfl (yd p789.z rfl rfl s791) rfl fun a792 p793 s794 => ?_
   have s795 := p793.o s791 rfl
   refine s1 p793.z (okPickF s795 cst) rfl fun a796 p797 s798 => ?_
   obtain rfl := Option.some.inj h
   exact rN ⟨rfl, ((((((Pg.refl p774.z).st p781 rfl).st p785 rfl).st p789 rfl).st p793 rfl).st p797 rfl), s798, (G.refl _ _)⟩
  ·have s799 := bv s775 hb778
   replace hb777 := (ifP hb778).symm.trans hb777
   clear h; have h := hb777; clear hb777
   have s800 := p774.o (p771.o (p767.o (p764.o (p761.o (p757.o s754 rfl) rfl) rfl) rfl) rfl) rfl
   refine s1g p774.z (okMv s800) rfl (yd p774.z rfl rfl s799) fun a801 p802 s803 => ?_
   have s804 := p802.o s799 rfl
   have s805 := p802.o (p774.o (p771.o (p767.o (p764.o (p761.o s759 rfl) rfl) rfl) rfl) rfl) rfl
   refine s1g p802.z (okFA (o' := 1) fo40_1 s805 rfl) rfl (yd p802.z rfl rfl s804) fun a806 p807 s808 => ?_
   have s809 := p807.o s804 rfl
   refine s1g p807.z (okLd (j := 1) na3 s808 (m748.cl) rfl rfl) rfl (yd p807.z rfl rfl s809) fun a810 p811 s812 => ?_
   have s813 := p811.o s809 rfl
   have s814 := p811.o (p807.o s803 rfl) rfl
   obtain ⟨t815, ht816, h⟩ := Option.bind_eq_some_iff.1 h
   refine lG rfl (yd p811.z rfl rfl s813) (oCallC p811.z s814 Try.call32 (ag1 s812) (c32 (b499 :: b387 :: b3 :: L) w743 cx751.lt _ _ ht816) rfl fun v820 a817 w818 hp821 p819 sp819 => ?_)
   obtain ⟨rfl, g822⟩ := hp821
   have cx823 := cx751.ca g822
   have s824 := p819.o s813 rfl
   refine s1 p819.z (okPickT s824 sp819) rfl fun a825 p826 s827 => ?_
   obtain rfl := Option.some.inj h
   exact rN ⟨rfl, ((((((Pg.refl p774.z).st p802 rfl).st p807 rfl).st p811 rfl).st p819 rfl).st p826 rfl), s827, g822⟩
 rintro a828 w831 ⟨pg829, s830, g832⟩
 have cx833 := cx751.ca g832
 refine s1 pg829.z (okMv s830) rfl fun a834 p835 s836 => ?_
 obtain ⟨b837, hb838, h⟩ := Option.bind_eq_some_iff.1 h
 refine cutL 5 (fun a' w' => Pg Try.f24.ntmps [72, 73, 74, 75, 76] a834 a' ∧ a'.eval (.tmp 76) = .bool b837 ∧ G [] w831 w') ?_ ?_
 ·rcases bf b776 with hb839 | hb839
  ·have s840 := bv s836 hb839
   replace hb838 := (ifN hb839).symm.trans hb838
   clear h; have h := hb838; clear hb838
   refine s1k p835.z rfl (yd p835.z rfl rfl s840) rfl fun a841 p842 s843 => ?_
   have s844 := p842.o s840 rfl
   refine s1k p842.z rfl (yd p842.z rfl rfl s844) rfl fun a845 p846 s847 => ?_
   have s848 := p846.o s844 rfl
   refine s1k p846.z rfl (yd p846.z rfl rfl s848) rfl fun a849 p850 s851 => ?_
   have s852 := p850.o s848 rfl
   refine s1k p850.z rfl (yd p850.z rfl rfl s852) rfl fun a853 p854 s855 => ?_
   have s856 := p854.o s852 rfl
   refine s1 p854.z (okPickF s856 cst) rfl fun a857 p858 s859 => ?_
   obtain rfl := Option.some.inj h
   exact rN ⟨rfl, ((((((Pg.refl p835.z).st p842 rfl).st p846 rfl).st p850 rfl).st p854 rfl).st p858 rfl), s859, (G.refl _ _)⟩
  ·have s860 := bv s836 hb839
   replace hb838 := (ifP hb839).symm.trans hb838
   clear h; have h := hb838; clear hb838
   have s861 := p835.o (pg829.o (p774.o (p771.o (p767.o (p764.o (p761.o (p757.o s754 rfl) rfl) rfl) rfl) rfl) rfl) rfl) rfl
   refine s1g p835.z (okMv s861) rfl (yd p835.z rfl rfl s860) fun a862 p863 s864 => ?_
   have s865 := p863.o s860 rfl
   have s866 := p863.o (p835.o (pg829.o (p774.o (p771.o (p767.o (p764.o (p761.o s759 rfl) rfl) rfl) rfl) rfl) rfl) rfl) rfl
   refine s1g p863.z (okFA (o' := 2) fo40_2 s866 rfl) rfl (yd p863.z rfl rfl s865) fun a867 p868 s869 => ?_
   have s870 := p868.o s865 rfl
   have m871 := m748.g0 g832
   refine s1g p868.z (okLd (j := 2) na3 s869 (m871.cl) rfl rfl) rfl (yd p868.z rfl rfl s870) fun a872 p873 s874 => ?_
   have s875 := p873.o s870 rfl
   have s876 := p873.o (p868.o s864 rfl) rfl
   obtain ⟨t877, ht878, h⟩ := Option.bind_eq_some_iff.1 h
   refine lG rfl (yd p873.z rfl rfl s875) (oCallC p873.z s876 Try.call32 (ag1 s874) (c32 (b499 :: b387 :: b3 :: L) w831 cx833.lt _ _ ht878) rfl fun v882 a879 w880 hp883 p881 sp881 => ?_)
   obtain ⟨rfl, g884⟩ := hp883
   have cx885 := cx833.ca g884
   have s886 := p881.o s875 rfl
   refine s1 p881.z (okPickT s886 sp881) rfl fun a887 p888 s889 => ?_
   obtain rfl := Option.some.inj h
   exact rN ⟨rfl, ((((((Pg.refl p835.z).st p863 rfl).st p868 rfl).st p873 rfl).st p881 rfl).st p888 rfl), s889, g884⟩
 rintro a890 w893 ⟨pg891, s892, g894⟩
 have cx895 := cx833.ca g894
 refine s1 pg891.z (okMv s892) rfl fun a896 p897 s898 => ?_
 obtain ⟨b899, hb900, h⟩ := Option.bind_eq_some_iff.1 h
 refine cutL 5 (fun a' w' => Pg Try.f24.ntmps [78, 79, 80, 81, 82] a896 a' ∧ a'.eval (.tmp 82) = .bool b899 ∧ G [] w893 w') ?_ ?_
 ·rcases bf b837 with hb901 | hb901
  ·have s902 := bv s898 hb901
   replace hb900 := (ifN hb901).symm.trans hb900
   clear h; have h := hb900; clear hb900
   refine s1k p897.z rfl (yd p897.z rfl rfl s902) rfl fun a903 p904 s905 => ?_
   have s906 := p904.o s902 rfl
   refine s1k p904.z rfl (yd p904.z rfl rfl s906) rfl fun a907 p908 s909 => ?_
   have s910 := p908.o s906 rfl
   refine s1k p908.z rfl (yd p908.z rfl rfl s910) rfl fun a911 p912 s913 => ?_
   have s914 := p912.o s910 rfl
   refine s1k p912.z rfl (yd p912.z rfl rfl s914) rfl fun a915 p916 s917 => ?_
   have s918 := p916.o s914 rfl
   refine s1 p916.z (okPickF s918 cst) rfl fun a919 p920 s921 => ?_
   obtain rfl := Option.some.inj h
   exact rN ⟨rfl, ((((((Pg.refl p897.z).st p904 rfl).st p908 rfl).st p912 rfl).st p916 rfl).st p920 rfl), s921, (G.refl _ _)⟩
  ·have s922 := bv s898 hb901
   replace hb900 := (ifP hb901).symm.trans hb900
   clear h; have h := hb900; clear hb900
   have s923 := p897.o (pg891.o (p835.o (pg829.o (p774.o (p771.o (p767.o (p764.o (p761.o (p757.o s754 rfl) rfl) rfl) rfl) rfl) rfl) rfl) rfl) rfl) rfl
   refine s1g p897.z (okMv s923) rfl (yd p897.z rfl rfl s922) fun a924 p925 s926 => ?_
   have s927 := p925.o s922 rfl
   have s928 := p925.o (p897.o (pg891.o (p835.o (pg829.o (p774.o (p771.o (p767.o (p764.o (p761.o s759 rfl) rfl) rfl) rfl) rfl) rfl) rfl) rfl) rfl) rfl
   refine s1g p925.z (okFA (o' := 3) fo40_3 s928 rfl) rfl (yd p925.z rfl rfl s927) fun a929 p930 s931 => ?_
   have s932 := p930.o s927 rfl
   have m933 := (m748.g0 g832).g0 g894
   refine s1g p930.z (okLd (j := 3) na3 s931 (m933.cl) rfl rfl) rfl (yd p930.z rfl rfl s932) fun a934 p935 s936 => ?_
   have s937 := p935.o s932 rfl
   have s938 := p935.o (p930.o s926 rfl) rfl
   obtain ⟨t939, ht940, h⟩ := Option.bind_eq_some_iff.1 h
   refine lG rfl (yd p935.z rfl rfl s937) (oCallC p935.z s938 Try.call32 (ag1 s936) (c32 (b499 :: b387 :: b3 :: L) w893 cx895.lt _ _ ht940) rfl fun v944 a941 w942 hp945 p943 sp943 => ?_)
   obtain ⟨rfl, g946⟩ := hp945
   have cx947 := cx895.ca g946
   have s948 := p943.o s937 rfl
   refine s1 p943.z (okPickT s948 sp943) rfl fun a949 p950 s951 => ?_
   obtain rfl := Option.some.inj h
   exact rN ⟨rfl, ((((((Pg.refl p897.z).st p925 rfl).st p930 rfl).st p935 rfl).st p943 rfl).st p950 rfl), s951, g946⟩
 rintro a952 w955 ⟨pg953, s954, g956⟩
 have cx957 := cx895.ca g956
 refine s1 pg953.z (okAs s954) rfl fun a958 p959 s960 => ?_
 refine rN (thenN ?_)
 obtain rfl := Option.some.inj h
 exact wp_ret (ret1 p959.z Try.results24 (rvT s960) ⟨_, rfl, rfl, cx957.g⟩)

set_option maxHeartbeats 4000000 in
set_option maxRecDepth 100000 in
theorem c25 (L : List Nat) (w : World) (hL : ∀ b ∈ L, b < w.heap.size) (x0 : TIns) (r : Bool) (h : ins_Access x0 = some r) : Calls Try.prog 25 #[.agg (TIns.C x0).toArray] w (fun e w' => ∃ v, e = .returned v ∧ v = .bool r ∧ G [] w w') := by
 refine enterF Try.func25 rfl rfl fun a0 z0 A => ?_
 have s0_0 := A 0 (.agg (TIns.C x0).toArray) rfl
 clear A
 have c0 : Cx [] w L w := ⟨G.refl _ _, hL⟩
 unfold ins_Access at h
 refine wp_seq ?_
 refine reg ?_
 refine lS (oBox (l := TIns.C x0) z0 s0_0 rfl rfl fun a1 w2 b3 p4 sp4 m5 g6 e7 => ?_)
 have f9 := c0.nw e7
 have cx8 := c0.al g6 m5
 refine s1 p4.z (okAs cst) rfl fun a10 p11 s12 => ?_
 refine rN (thenN ?_)
 refine wp_seq ?_
 refine reg ?_
 have s13 := p11.o sp4 rfl
 refine s1 p11.z (okFA (o' := 0) fo40_0 s13 rfl) rfl fun a14 p15 s16 => ?_
 refine s1 p15.z (okLd (j := 0) na3 s16 (m5.cl) rfl rfl) rfl fun a17 p18 s19 => ?_
 refine s1 p18.z (okGe s19 cst) rfl fun a20 p21 s22 => ?_
 refine s1 p21.z (okMv s22) rfl fun a23 p24 s25 => ?_
 refine cutP 4 (fun a' => Pg Try.f25.ntmps [7, 8, 9, 10] a23 a' ∧ a'.eval (.tmp 10) = .bool ((decide (5 ≤ x0.op)) && (decide (x0.op ≤ 7)))) ?_ ?_
 ·rcases bf (decide (5 ≤ x0.op)) with hb26 | hb26
  ·have s27 := bv s25 hb26
   refine s1k p24.z rfl (yd p24.z rfl rfl s27) rfl fun a28 p29 s30 => ?_
   have s31 := p29.o s27 rfl
   refine s1k p29.z rfl (yd p29.z rfl rfl s31) rfl fun a32 p33 s34 => ?_
   have s35 := p33.o s31 rfl
   refine s1k p33.z rfl (yd p33.z rfl rfl s35) rfl fun a36 p37 s38 => ?_
   have s39 := p37.o s35 rfl
   refine s1 p37.z (okPickF s39 cst) rfl fun a40 p41 s42 => ?_
   exact rN ⟨rfl, rfl, (((((Pg.refl p24.z).st p29 rfl).st p33 rfl).st p37 rfl).st p41 rfl), (andF hb26 s42)⟩
  ·have s43 := bv s25 hb26
   have s44 := p24.o (p21.o (p18.o (p15.o s13 rfl) rfl) rfl) rfl
   refine s1g p24.z (okFA (o' := 0) fo40_0 s44 rfl) rfl (yd p24.z rfl rfl s43) fun a45 p46 s47 => ?_
   have s48 := p46.o s43 rfl
   refine s1g p46.z (okLd (j := 0) na3 s47 (m5.cl) rfl rfl) rfl (yd p46.z rfl rfl s48) fun a49 p50 s51 => ?_
   have s52 := p50.o s48 rfl
   refine s1g p50.z (okLe s51 cst) rfl (yd p50.z rfl rfl s52) fun a53 p54 s55 => ?_
   have s56 := p54.o s52 rfl
   refine s1 p54.z (okPickT s56 s55) rfl fun a57 p58 s59 => ?_
   exact rN ⟨rfl, rfl, (((((Pg.refl p24.z).st p46 rfl).st p50 rfl).st p54 rfl).st p58 rfl), (andT hb26 s59)⟩
 rintro a60 ⟨pg61, s62⟩
 refine s1 pg61.z (okAs s62) rfl fun a63 p64 s65 => ?_
 refine rN (thenN ?_)
 obtain rfl := Option.some.inj h
 exact wp_ret (ret1 p64.z Try.results25 (rvT s65) ⟨_, rfl, rfl, cx8.g⟩)

set_option maxHeartbeats 4000000 in
set_option maxRecDepth 100000 in
theorem c13 (L : List Nat) (w : World) (x0 : Tcell_Arena) (ob0 : Nat) (hp0_0 : Value) (x1 : Int) (hL : ∀ b ∈ (ob0 :: (ownB hp0_0 ++ L)), b < w.heap.size) (D : Sep [[ob0], ownB hp0_0] L) (mob0 : Bk w ob0 (Tcell_Arena.C x0 hp0_0) 72) (qhp0_0 : OwnS (KInt .i64) 2 (ob0 :: (ownB hp0_0 ++ L)) w hp0_0 x0.l) (r : Int × Er) (h : cell_Arena_Load x0 x1 = some r) : Calls Try.prog 13 #[ptr ob0 0, .int .i64 x1] w (fun e w' => ∃ v, e = .returned v ∧ ∃ u1_0, v = .tuple #[.int .i64 r.1, u1_0] ∧ ErG 36 0 (ob0 :: (ownB hp0_0 ++ L)) w' u1_0 r.2 ∧ G ([] : List Nat) w w') := by
 refine enterF Try.func13 rfl rfl fun a0 z0 A => ?_
 have s0_0 := A 0 (ptr ob0 0) rfl
 have s0_1 := A 1 (.int .i64 x1) rfl
 clear A
 have hLb : ∀ b ∈ L, b < w.heap.size := fun b h => hL b (.tail _ (List.mem_append_right _ h))
 have c0 : Cx ([] : List Nat) w (ob0 :: (ownB hp0_0 ++ L)) w := ⟨G.refl _ _, hL⟩
 unfold cell_Arena_Load at h
 refine wp_seq ?_
 refine reg ?_
 refine s1 z0 (okAs cst) rfl fun a1 p2 s3 => ?_
 refine s1 p2.z (okAs cst) rfl fun a4 p5 s6 => ?_
 refine rN (thenN ?_)
 refine wp_seq ?_
 refine wp_seq ?_
 refine reg ?_
 have s7 := p5.o (p2.o s0_0 rfl) rfl
 refine s1 p5.z (okMv s7) rfl fun a8 p9 s10 => ?_
 have s11 := p9.o (p5.o (p2.o s0_1 rfl) rfl) rfl
 refine s1 p9.z (okMv s11) rfl fun a12 p13 s14 => ?_
 have s15 := p13.o s10 rfl
 obtain ⟨t16, ht17, h⟩ := Option.bind_eq_some_iff.1 h
 refine lS (oCall p13.z Try.call27 (ag2 s15 s14) (c27 L w x0 ob0 hp0_0 x1 c0.lt (sepC (show ∀ x ∈ [ob0], x ∉ (ownB hp0_0 ++ L) from (in1 (na (D.bo (i := 0) (j := 1) rfl rfl rfl) (D.bl (i := 0) rfl)))) (sepC (show ∀ x ∈ ownB hp0_0, x ∉ L from (fun x hx => ((D.dl (i := 1) rfl) x hx))) sepN)) mob0 qhp0_0 _ ht17) rfl fun v21 a18 w19 hp22 p20 sp20 => ?_)
 obtain ⟨rfl, g25⟩ := hp22
 have cx26 := c0.ca g25
 refine s1 p20.z (okNot sp20) rfl fun a27 p28 s29 => ?_
 refine rN (thenN ?_)
 have s30 := p28.o (p20.o (p13.o (p9.o s7 rfl) rfl) rfl) rfl
 have s31 := p28.o (p20.o (p13.o s11 rfl) rfl) rfl
 have s32 := p28.o (p20.o (p13.o (p9.o (p5.o s3 rfl) rfl) rfl) rfl) rfl
 have s33 := p28.o (p20.o (p13.o (p9.o s6 rfl) rfl) rfl) rfl
 have pg34 : Pg _ [4, 5, 6, 7, 8, 9] _ _ := (((((((Pg.refl z0).st p2 rfl).st p5 rfl).st p9 rfl).st p13 rfl).st p20 rfl).st p28 rfl)
 refine cnd s29 (fun hb35 => ?_) (fun hb35 => ?_)
 ·replace h := (ifP hb35).symm.trans h
  refine wp_seq ?_
  refine reg ?_
  refine s1 pg34.z (okMkI Try.underlying36 cst _) rfl fun a36 p37 s38 => ?_
  refine s1 p37.z (okAs cst) rfl fun a39 p40 s41 => ?_
  have s42 := p40.o s38 rfl
  refine s1 p40.z (okAs s42) rfl fun a43 p44 s45 => ?_
  refine rN (thenN ?_)
  have s46 := p44.o s41 rfl
  obtain rfl := Option.some.inj h
  exact wp_ret (thenR (ret2 p44.z Try.results13 (rvT s46) (rvT s45) ⟨_, rfl, (.iface 36 (.int .i64 6)), rfl, ErG.code, cx26.g⟩))
 replace h := (ifN hb35).symm.trans h
 refine wp_skip (thenN ?_)
 refine wp_seq ?_
 refine reg ?_
 refine s1 pg34.z (okMv s30) rfl fun a47 p48 s49 => ?_
 refine s1 p48.z (okNil s49) rfl fun a50 p51 s52 => ?_
 refine s1 p51.z (okFA (o' := 0) fo72_0 s52 rfl) rfl fun a53 p54 s55 => ?_
 have m56 := mob0.g0 g25
 refine s1 p54.z (okLd (j := 0) na28 s55 (m56.cl) rfl rfl) rfl fun a57 p58 s59 => ?_
 have s60 := p58.o (p54.o (p51.o (p48.o s31 rfl) rfl) rfl) rfl
 refine s1 p58.z (okMv s60) rfl fun a61 p62 s63 => ?_
 have s64 := p62.o s59 rfl
 have q65 := qhp0_0.t0 g25.t0 g25
 obtain ⟨y66, hy67, h⟩ := Option.bind_eq_some_iff.1 h
 obtain ⟨b68, cs70, r72, e73, nb74, k71⟩ := q65.at_ hy67
 obtain rfl := r72
 refine s1 p62.z (k71 Try.underlying28 Try.sizeOf2 s64 s63 _) rfl fun a75 p76 s77 => ?_
 refine s1 p76.z (okLd (j := 0) na2 s77 e73 rfl rfl) rfl fun a78 p79 s80 => ?_
 refine s1 p79.z (okAs s80) rfl fun a81 p82 s83 => ?_
 refine s1 p82.z (okAs cst) rfl fun a84 p85 s86 => ?_
 refine rN (thenN ?_)
 have s87 := p85.o s83 rfl
 obtain rfl := Option.some.inj h
 exact wp_ret (ret2 p85.z Try.results13 (rvT s87) (rvT s86) ⟨_, rfl, .nilIface, rfl, ErG.nil, cx26.g⟩)

set_option maxHeartbeats 4000000 in
set_option maxRecDepth 100000 in
theorem c38 (L : List Nat) (w : World) (x0 : Tcell_Arena) (ob0 : Nat) (hp0_0 : Value) (x1 : Int) (x2 : Int) (x3 : Int) (hL : ∀ b ∈ (ob0 :: (ownB hp0_0 ++ L)), b < w.heap.size) (D : Sep [[ob0], ownB hp0_0] L) (mob0 : Bk w ob0 (Tcell_Arena.C x0 hp0_0) 72) (qhp0_0 : OwnS (KInt .i64) 2 (ob0 :: (ownB hp0_0 ++ L)) w hp0_0 x0.l) (r : Bool × Er × Tcell_Arena) (h : cell_Arena_Swap x0 x1 x2 x3 = some r) : Calls Try.prog 38 #[ptr ob0 0, .int .i64 x1, .int .i64 x2, .int .i64 x3] w (fun e w' => ∃ v, e = .returned v ∧ ∃ u1_0, v = .tuple #[.bool r.1, u1_0] ∧ ErG 36 0 (ob0 :: (ownB hp0_0 ++ L)) w' u1_0 r.2.1 ∧ Bk w' ob0 (Tcell_Arena.C r.2.2 hp0_0) 72 ∧ OwnS (KInt .i64) 2 (ob0 :: (ownB hp0_0 ++ L)) w' hp0_0 r.2.2.l ∧ Sep [[ob0], ownB hp0_0] L ∧ (∀ b ∈ (ob0 :: (ownB hp0_0 ++ L)), b < w'.heap.size) ∧ G (ob0 :: (ownB hp0_0 ++ [])) w w') := by
 refine enterF Try.func38 rfl rfl fun a0 z0 A => ?_
 have s0_0 := A 0 (ptr ob0 0) rfl
 have s0_1 := A 1 (.int .i64 x1) rfl
 have s0_2 := A 2 (.int .i64 x2) rfl
 have s0_3 := A 3 (.int .i64 x3) rfl
 clear A
 have hLb : ∀ b ∈ L, b < w.heap.size := fun b h => hL b (.tail _ (List.mem_append_right _ h))
 have c0 : Cx (ob0 :: (ownB hp0_0 ++ [])) w (ob0 :: (ownB hp0_0 ++ L)) w := ⟨G.refl _ _, hL⟩
 unfold cell_Arena_Swap at h
 refine wp_seq ?_
 refine reg ?_
 refine s1 z0 (okAs cst) rfl fun a1 p2 s3 => ?_
 refine s1 p2.z (okAs cst) rfl fun a4 p5 s6 => ?_
 refine rN (thenN ?_)
 refine wp_seq ?_
 refine wp_seq ?_
 refine reg ?_
 have s7 := p5.o (p2.o s0_0 rfl) rfl
 refine s1 p5.z (okMv s7) rfl fun a8 p9 s10 => ?_
 have s11 := p9.o (p5.o (p2.o s0_1 rfl) rfl) rfl
 refine s1 p9.z (okMv s11) rfl fun a12 p13 s14 => ?_
 have s15 := p13.o s10 rfl
 obtain ⟨t16, ht17, h⟩ := Option.bind_eq_some_iff.1 h
 refine lS (oCall p13.z Try.call27 (ag2 s15 s14) (c27 L w x0 ob0 hp0_0 x1 c0.lt (sepC (show ∀ x ∈ [ob0], x ∉ (ownB hp0_0 ++ L) from (in1 (na (D.bo (i := 0) (j := 1) rfl rfl rfl) (D.bl (i := 0) rfl)))) (sepC (show ∀ x ∈ ownB hp0_0, x ∉ L from (fun x hx => ((D.dl (i := 1) rfl) x hx))) sepN)) mob0 qhp0_0 _ ht17) rfl fun v21 a18 w19 hp22 p20 sp20 => ?_)
 obtain ⟨rfl, g25⟩ := hp22
 have cx26 := c0.ca g25
 refine s1 p20.z (okNot sp20) rfl fun a27 p28 s29 => ?_
 refine rN (thenN ?_)
 have s30 := p28.o (p20.o (p13.o (p9.o s7 rfl) rfl) rfl) rfl
 have s31 := p28.o (p20.o (p13.o s11 rfl) rfl) rfl
 have s32 := p28.o (p20.o (p13.o (p9.o (p5.o s3 rfl) rfl) rfl) rfl) rfl
 have s33 := p28.o (p20.o (p13.o (p9.o s6 rfl) rfl) rfl) rfl
 have pg34 : Pg _ [8, 9, 10, 11, 12, 13] _ _ := (((((((Pg.refl z0).st p2 rfl).st p5 rfl).st p9 rfl).st p13 rfl).st p20 rfl).st p28 rfl)
 refine cnd s29 (fun hb35 => ?_) (fun hb35 => ?_)
 ·replace h := (ifP hb35).symm.trans h
  refine wp_seq ?_
  refine reg ?_
  refine s1 pg34.z (okMkI Try.underlying36 cst _) rfl fun a36 p37 s38 => ?_
  refine s1 p37.z (okAs cst) rfl fun a39 p40 s41 => ?_
  have s42 := p40.o s38 rfl
  refine s1 p40.z (okAs s42) rfl fun a43 p44 s45 => ?_
  refine rN (thenN ?_)
  have s46 := p44.o s41 rfl
  obtain rfl := Option.some.inj h
  have m47 := mob0.g0 g25
  have q48 := qhp0_0.t0 g25.t0 g25
  exact wp_ret (thenR (ret2 p44.z Try.results38 (rvT s46) (rvT s45) ⟨_, rfl, (.iface 36 (.int .i64 6)), rfl, ErG.code, m47, q48, (sepC (show ∀ x ∈ [ob0], x ∉ (ownB hp0_0 ++ L) from (in1 (na (D.bo (i := 0) (j := 1) rfl rfl rfl) (D.bl (i := 0) rfl)))) (sepC (show ∀ x ∈ ownB hp0_0, x ∉ L from (fun x hx => ((D.dl (i := 1) rfl) x hx))) sepN)), (show ∀ b ∈ (ob0 :: (ownB hp0_0 ++ L)), b < w19.heap.size from cx26.lt), cx26.g⟩))
 replace h := (ifN hb35).symm.trans h
 refine wp_skip (thenN ?_)
 refine wp_seq ?_
 refine wp_seq ?_
 refine reg ?_
 refine s1 pg34.z (okMv s30) rfl fun a49 p50 s51 => ?_
 refine s1 p50.z (okNil s51) rfl fun a52 p53 s54 => ?_
 refine s1 p53.z (okFA (o' := 0) fo72_0 s54 rfl) rfl fun a55 p56 s57 => ?_
 have m58 := mob0.g0 g25
 refine s1 p56.z (okLd (j := 0) na28 s57 (m58.cl) rfl rfl) rfl fun a59 p60 s61 => ?_
 have s62 := p60.o (p56.o (p53.o (p50.o s31 rfl) rfl) rfl) rfl
 refine s1 p60.z (okMv s62) rfl fun a63 p64 s65 => ?_
 have s66 := p64.o s61 rfl
 have q67 := qhp0_0.t0 g25.t0 g25
 obtain ⟨y68, hy69, h⟩ := Option.bind_eq_some_iff.1 h
 obtain ⟨b70, cs72, r74, e75, nb76, k73⟩ := q67.at_ hy69
 obtain rfl := r74
 refine s1 p64.z (k73 Try.underlying28 Try.sizeOf2 s66 s65 _) rfl fun a77 p78 s79 => ?_
 refine s1 p78.z (okLd (j := 0) na2 s79 e75 rfl rfl) rfl fun a80 p81 s82 => ?_
 have s83 := p81.o (p78.o (p64.o (p60.o (p56.o (p53.o (p50.o (pg34.o s0_2 rfl) rfl) rfl) rfl) rfl) rfl) rfl) rfl
 refine s1 p81.z (okMv s83) rfl fun a84 p85 s86 => ?_
 have s87 := p85.o s82 rfl
 refine s1 p85.z (okNe s87 s86) rfl fun a88 p89 s90 => ?_
 refine rN (thenN ?_)
 have s91 := p89.o (p85.o (p81.o (p78.o (p64.o s62 rfl) rfl) rfl) rfl) rfl
 have pg92 : Pg _ [15, 16, 17, 18, 19, 20, 21, 22, 23] _ _ := ((((((((((Pg.refl pg34.z).st p50 rfl).st p53 rfl).st p56 rfl).st p60 rfl).st p64 rfl).st p78 rfl).st p81 rfl).st p85 rfl).st p89 rfl)
 refine cnd s90 (fun hb93 => ?_) (fun hb93 => ?_)
 ·replace h := (ifP hb93).symm.trans h
  refine wp_seq ?_
  refine reg ?_
  refine s1 pg92.z (okAs cst) rfl fun a94 p95 s96 => ?_
  refine s1 p95.z (okAs cst) rfl fun a97 p98 s99 => ?_
  refine rN (thenN ?_)
  have s100 := p98.o s96 rfl
  obtain rfl := Option.some.inj h
  exact wp_ret (thenR (ret2 p98.z Try.results38 (rvT s100) (rvT s99) ⟨_, rfl, .nilIface, rfl, ErG.nil, m58, q67, (sepC (show ∀ x ∈ [ob0], x ∉ (ownB hp0_0 ++ L) from (in1 (na (D.bo (i := 0) (j := 1) rfl rfl rfl) (D.bl (i := 0) rfl)))) (sepC (show ∀ x ∈ ownB hp0_0, x ∉ L from (fun x hx => ((D.dl (i := 1) rfl) x hx))) sepN)), (show ∀ b ∈ (ob0 :: (ownB hp0_0 ++ L)), b < w19.heap.size from cx26.lt), cx26.g⟩))
 replace h := (ifN hb93).symm.trans h
 refine wp_skip (thenN ?_)
 refine wp_seq ?_
 refine reg ?_
 have s101 := pg92.o s30 rfl
 refine s1 pg92.z (okMv s101) rfl fun a102 p103 s104 => ?_
 refine s1 p103.z (okNil s104) rfl fun a105 p106 s107 => ?_
 refine s1 p106.z (okFA (o' := 0) fo72_0 s107 rfl) rfl fun a108 p109 s110 => ?_
 refine s1 p109.z (okLd (j := 0) na28 s110 (m58.cl) rfl rfl) rfl fun a111 p112 s113 => ?_
 have s114 := p112.o (p109.o (p106.o (p103.o s91 rfl) rfl) rfl) rfl
 refine s1 p112.z (okMv s114) rfl fun a115 p116 s117 => ?_
 have s118 := p116.o (p112.o (p109.o (p106.o (p103.o (pg92.o (pg34.o s0_3 rfl) rfl) rfl) rfl) rfl) rfl) rfl
 refine s1 p116.z (okMv s118) rfl fun a119 p120 s121 => ?_
 have s122 := p120.o (p116.o s113 rfl) rfl
 have s123 := p120.o s117 rfl
 refine s1 p120.z (k73 Try.underlying28 Try.sizeOf2 s122 s123 _) rfl fun a124 p125 s126 => ?_
 have s127 := p125.o s121 rfl
 refine lS (oStoE (K := (KInt .i64)) (e' := x3) (vs := [.int .i64 x3]) (j := 0) p125.z s126 s127 q67 hy69 nb76 e75 (fun _ h => (.tail _ (List.mem_append_left _ h))) rfl Try.sizeOf2 rfl one1 rfl rfl rfl rfl fun w128 q129 g130 => ?_)
 have cx131 := cx26.cs g130 (fun _ h => .inl (.tail _ (List.mem_append_left _ h)))
 refine rN (thenN ?_)
 refine wp_seq ?_
 refine reg ?_
 refine s1 p125.z (okAs cst) rfl fun a132 p133 s134 => ?_
 refine s1 p133.z (okAs cst) rfl fun a135 p136 s137 => ?_
 refine rN (thenN ?_)
 have s138 := p136.o s134 rfl
 obtain rfl := Option.some.inj h
 have m139 := m58.g g130 (D.bo (i := 0) (j := 1) rfl rfl rfl)
 exact wp_ret (ret2 p136.z Try.results38 (rvT s138) (rvT s137) ⟨_, rfl, .nilIface, rfl, ErG.nil, m139, q129, (sepC (show ∀ x ∈ [ob0], x ∉ (ownB hp0_0 ++ L) from (in1 (na (D.bo (i := 0) (j := 1) rfl rfl rfl) (D.bl (i := 0) rfl)))) (sepC (show ∀ x ∈ ownB hp0_0, x ∉ L from (fun x hx => ((D.dl (i := 1) rfl) x hx))) sepN)), (show ∀ b ∈ (ob0 :: (ownB hp0_0 ++ L)), b < w128.heap.size from cx131.lt), cx131.g⟩)

set_option maxHeartbeats 4000000 in
set_option maxRecDepth 100000 in
theorem c33 (L : List Nat) (w : World) (x0 : Tmicro_machine) (ob0 : Nat) (hp0_0 : Value) (ob0_1 : Nat) (hp0_1_0 : Value) (ob0_2 : Nat) (hp0_2_0 : Value) (hp0_3 : Value) (hp0_4 : Value) (x1 : TIns) (x2 : Int) (bx2 : Nat) (hL : ∀ b ∈ (ob0 :: (ob0_1 :: (ownB hp0_1_0 ++ (ob0_2 :: (ownB hp0_2_0 ++ (ownB hp0_3 ++ (ownB hp0_4 ++ L))))))), b < w.heap.size) (D : Sep [[ob0], [ob0_1], ownB hp0_1_0, [ob0_2], ownB hp0_2_0, ownB hp0_3, ownB hp0_4] L) (mob0 : Bk w ob0 (Tmicro_machine.C ({ x0 with a := default, t := default }) hp0_0 (ptr ob0_1 0) (ptr ob0_2 0) hp0_3 hp0_4) 68) (qhp0_0 : RdS KTIns (ob0 :: (ob0_1 :: (ownB hp0_1_0 ++ (ob0_2 :: (ownB hp0_2_0 ++ (ownB hp0_3 ++ (ownB hp0_4 ++ L))))))) w hp0_0 x0.code) (mob0_1 : Bk w ob0_1 (Tcell_Arena.C x0.a hp0_1_0) 72) (qhp0_1_0 : OwnS (KInt .i64) 2 (ob0 :: (ob0_1 :: (ownB hp0_1_0 ++ (ob0_2 :: (ownB hp0_2_0 ++ (ownB hp0_3 ++ (ownB hp0_4 ++ L))))))) w hp0_1_0 x0.a.l) (mob0_2 : Bk w ob0_2 (Tpermit_Table.C x0.t hp0_2_0) 78) (qhp0_2_0 : OwnS KTPark 59 (ob0 :: (ob0_1 :: (ownB hp0_1_0 ++ (ob0_2 :: (ownB hp0_2_0 ++ (ownB hp0_3 ++ (ownB hp0_4 ++ L))))))) w hp0_2_0 x0.t.l) (qhp0_3 : OwnS KTFrame 66 (ob0 :: (ob0_1 :: (ownB hp0_1_0 ++ (ob0_2 :: (ownB hp0_2_0 ++ (ownB hp0_3 ++ (ownB hp0_4 ++ L))))))) w hp0_3 x0.l) (qhp0_4 : OwnS KTNote 80 (ob0 :: (ob0_1 :: (ownB hp0_1_0 ++ (ob0_2 :: (ownB hp0_2_0 ++ (ownB hp0_3 ++ (ownB hp0_4 ++ L))))))) w hp0_4 x0.notes) (eb2 : ownB hp0_3 = [bx2]) (r : Bool × Tmicro_machine) (h : micro_machine_access x0 x1 x2 = some r) : Calls Try.prog 33 #[ptr ob0 0, .agg (TIns.C x1).toArray, ptr bx2 (x2.toNat * 17)] w (fun e w' => ∃ v, e = .returned v ∧ v = .bool r.1 ∧ Bk w' ob0 (Tmicro_machine.C ({ r.2 with a := default, t := default }) hp0_0 (ptr ob0_1 0) (ptr ob0_2 0) hp0_3 hp0_4) 68 ∧ RdS KTIns (ob0 :: (ob0_1 :: (ownB hp0_1_0 ++ (ob0_2 :: (ownB hp0_2_0 ++ (ownB hp0_3 ++ (ownB hp0_4 ++ L))))))) w' hp0_0 r.2.code ∧ Bk w' ob0_1 (Tcell_Arena.C r.2.a hp0_1_0) 72 ∧ OwnS (KInt .i64) 2 (ob0 :: (ob0_1 :: (ownB hp0_1_0 ++ (ob0_2 :: (ownB hp0_2_0 ++ (ownB hp0_3 ++ (ownB hp0_4 ++ L))))))) w' hp0_1_0 r.2.a.l ∧ Bk w' ob0_2 (Tpermit_Table.C r.2.t hp0_2_0) 78 ∧ OwnS KTPark 59 (ob0 :: (ob0_1 :: (ownB hp0_1_0 ++ (ob0_2 :: (ownB hp0_2_0 ++ (ownB hp0_3 ++ (ownB hp0_4 ++ L))))))) w' hp0_2_0 r.2.t.l ∧ OwnS KTFrame 66 (ob0 :: (ob0_1 :: (ownB hp0_1_0 ++ (ob0_2 :: (ownB hp0_2_0 ++ (ownB hp0_3 ++ (ownB hp0_4 ++ L))))))) w' hp0_3 r.2.l ∧ OwnS KTNote 80 (ob0 :: (ob0_1 :: (ownB hp0_1_0 ++ (ob0_2 :: (ownB hp0_2_0 ++ (ownB hp0_3 ++ (ownB hp0_4 ++ L))))))) w' hp0_4 r.2.notes ∧ Sep [[ob0], [ob0_1], ownB hp0_1_0, [ob0_2], ownB hp0_2_0, ownB hp0_3, ownB hp0_4] L ∧ (∀ b ∈ (ob0 :: (ob0_1 :: (ownB hp0_1_0 ++ (ob0_2 :: (ownB hp0_2_0 ++ (ownB hp0_3 ++ (ownB hp0_4 ++ L))))))), b < w'.heap.size) ∧ G (ob0 :: (ob0_1 :: (ownB hp0_1_0 ++ (ob0_2 :: (ownB hp0_2_0 ++ (ownB hp0_3 ++ (ownB hp0_4 ++ []))))))) w w') := by
 refine enterF Try.func33 rfl rfl fun a0 z0 A => ?_
 have s0_0 := A 0 (ptr ob0 0) rfl
 have s0_1 := A 1 (.agg (TIns.C x1).toArray) rfl
 have s0_2 := A 2 (ptr bx2 (x2.toNat * 17)) rfl
 clear A
 have hLb : ∀ b ∈ L, b < w.heap.size := fun b h => hL b (.tail _ (.tail _ (List.mem_append_right _ (.tail _ (List.mem_append_right _ (List.mem_append_right _ (List.mem_append_right _ h)))))))
 have c0 : Cx (ob0 :: (ob0_1 :: (ownB hp0_1_0 ++ (ob0_2 :: (ownB hp0_2_0 ++ (ownB hp0_3 ++ (ownB hp0_4 ++ []))))))) w (ob0 :: (ob0_1 :: (ownB hp0_1_0 ++ (ob0_2 :: (ownB hp0_2_0 ++ (ownB hp0_3 ++ (ownB hp0_4 ++ L))))))) w := ⟨G.refl _ _, hL⟩
 unfold micro_machine_access at h
 obtain ⟨y1, hy2, h⟩ := Option.bind_eq_some_iff.1 h
 obtain ⟨b3, cs4, r5, e6, nb7, k8⟩ := qhp0_3.at_ hy2
 obtain rfl : bx2 = b3 := own1 eb2 nb7
 obtain rfl := r5
 refine wp_seq ?_
 refine reg ?_
 refine lS (oBox (l := TIns.C x1) z0 s0_1 rfl rfl fun a9 w10 b11 p12 sp12 m13 g14 e15 => ?_)
 have f17 := c0.nw e15
 have cx16 := c0.al g14 m13
 refine s1 p12.z (okAs cst) rfl fun a18 p19 s20 => ?_
 refine rN (thenN ?_)
 refine wp_seq ?_
 refine regS mixed (by kernel_rfl) ?_
 have g21 := G.drew w10
 have cx22 := cx16.ca g21
 have s23 := p19.o (p12.o s0_2 rfl) rfl
 refine t1 p19.z (okMv s23) rfl fun a24 p25 s26 => ?_
 have s27 := p25.o (p19.o sp12 rfl) rfl
 refine t1 p25.z (okFA (o' := 2) fo40_2 s27 rfl) rfl fun a28 p29 s30 => ?_
 have m31 := m13.g0 g21
 refine t1 p29.z (okLd (j := 2) na3 s30 (m31.cl) rfl rfl) rfl fun a32 p33 s34 => ?_
 have s35 := p33.o (p29.o s26 rfl) rfl
 refine t1 p33.z (okNil s35) rfl fun a36 p37 s38 => ?_
 refine t1 p37.z (okFA (o' := x2.toNat * 17 + 1) fo66_1 s38 rfl) rfl fun a39 p40 s41 => ?_
 have s42 := p40.o (p37.o s34 rfl) rfl
 by_cases hi43 : 0 ≤ x1.b ∧ x1.b < 16
 case neg => rw [if_neg hi43] at h; cases h
 replace h := (if_pos hi43).symm.trans h
 refine t1 p40.z (okIA Try.underlying64 Try.sizeOf2 s41 s42 hi43) rfl fun a44 p45 s46 => ?_
 have e47 := (e6.g0 g14).g0 g21
 refine t1 p45.z (okLd (j := 1 + x1.b.toNat) na2 s46 e47 (Nat.add_assoc _ _ _).symm (TFrame.C_r_get _ hi43)) rfl fun a48 p49 s50 => ?_
 have s51 := p49.o (p45.o (p40.o (p37.o (p33.o (p29.o s27 rfl) rfl) rfl) rfl) rfl) rfl
 refine t1 p49.z (okFA (o' := 4) fo40_4 s51 rfl) rfl fun a52 p53 s54 => ?_
 refine t1 p53.z (okLd (j := 4) na2 s54 (m31.cl) rfl rfl) rfl fun a55 p56 s57 => ?_
 have s58 := p56.o (p53.o s50 rfl) rfl
 refine t1 p56.z (okAdd s58 s57) rfl fun a59 p60 s61 => ?_
 refine t1 p60.z (okAs s61) rfl fun a62 p63 s64 => ?_
 refine tN (thenN ?_)
 refine wp_seq ?_
 refine wp_seq ?_
 refine reg ?_
 have s65 := p63.o (p60.o (p56.o (p53.o s51 rfl) rfl) rfl) rfl
 refine s1 p63.z (okFA (o' := 0) fo40_0 s65 rfl) rfl fun a66 p67 s68 => ?_
 refine s1 p67.z (okLd (j := 0) na3 s68 (m31.cl) rfl rfl) rfl fun a69 p70 s71 => ?_
 refine rN (thenN ?_)
 refine wp_block ?_
 refine wp_seq ?_
 refine reg ?_
 refine s1 p70.z (okEq s71 cst) rfl fun a72 p73 s74 => ?_
 refine s1 p73.z (okAs s74) rfl fun a75 p76 s77 => ?_
 refine rN (thenN ?_)
 have s78 := p76.o (p73.o (p70.o (p67.o (p63.o (p60.o (p56.o (p53.o (p49.o (p45.o (p40.o (p37.o (p33.o (p29.o (p25.o s23 rfl) rfl) rfl) rfl) rfl) rfl) rfl) rfl) rfl) rfl) rfl) rfl) rfl) rfl) rfl
 have s79 := p76.o (p73.o (p70.o (p67.o s65 rfl) rfl) rfl) rfl
 have s80 := p76.o (p73.o (p70.o (p67.o (p63.o (p60.o (p56.o (p53.o (p49.o (p45.o (p40.o (p37.o (p33.o (p29.o (p25.o s20 rfl) rfl) rfl) rfl) rfl) rfl) rfl) rfl) rfl) rfl) rfl) rfl) rfl) rfl) rfl
 have s81 := p76.o (p73.o (p70.o (p67.o s64 rfl) rfl) rfl) rfl
 have s82 := p76.o (p73.o s71 rfl) rfl
 have pg83 : Pg _ [4, 6, 7, 12, 13, 14, 15, 16, 17, 18, 19, 20, 21, 22, 23, 24, 25] _ _ := ((((((((((((((((((Pg.refl z0).st p12 rfl).st p19 rfl).st p25 rfl).st p29 rfl).st p33 rfl).st p37 rfl).st p40 rfl).st p45 rfl).st p49 rfl).st p53 rfl).st p56 rfl).st p60 rfl).st p63 rfl).st p67 rfl).st p70 rfl).st p73 rfl).st p76 rfl)
 refine cnd s77 (fun hb84 => ?_) (fun hb84 => ?_)
 ·replace h := (ifP hb84).symm.trans h
  refine wp_seq ?_
  refine reg ?_
  have s85 := pg83.o s0_0 rfl
  refine s1 pg83.z (okMv s85) rfl fun a86 p87 s88 => ?_
  refine s1 p87.z (okNil s88) rfl fun a89 p90 s91 => ?_
  refine s1 p90.z (okFA (o' := 1) fo68_1 s91 rfl) rfl fun a92 p93 s94 => ?_
  have m95 := (mob0.g0 g14).g0 g21
  refine s1 p93.z (okLd (j := 1) na24 s94 (m95.cl) rfl rfl) rfl fun a96 p97 s98 => ?_
  have s99 := p97.o (p93.o (p90.o (p87.o s81 rfl) rfl) rfl) rfl
  refine s1 p97.z (okMv s99) rfl fun a100 p101 s102 => ?_
  have s103 := p101.o s98 rfl
  have m104 := (mob0_1.g0 g14).g0 g21
  have q105 := (qhp0_1_0.t0 (g14.tA (Nat.le_of_eq e15.symm)) g14).t0 g21.t0 g21
  have m106 := (mob0_2.g0 g14).g0 g21
  obtain ⟨t107, ht108, h⟩ := Option.bind_eq_some_iff.1 h
  refine lS (oCall p101.z Try.call13 (ag2 s103 s102) (c13 (b11 :: (ob0 :: (ob0_2 :: (ownB hp0_2_0 ++ (ownB hp0_3 ++ (ownB hp0_4 ++ L)))))) w10.drew x0.a ob0_1 hp0_1_0 (w64 ((y1.r.get x1.b) + x1.n)) (fun i h => cx22.lt i ((List.mem_cons.1 h).elim (fun e => e ▸ (.tail _ (.tail _ (.head _)))) (fun h => (List.mem_append.1 h).elim (fun h => (.tail _ (.tail _ (.tail _ (List.mem_append_left _ h))))) (fun h => (List.mem_cons.1 h).elim (fun e => e ▸ (.head _)) (fun h => (List.mem_cons.1 h).elim (fun e => e ▸ (.tail _ (.head _))) (fun h => (.tail _ (.tail _ (.tail _ (List.mem_append_right _ h)))))))))) (sepC (show ∀ x ∈ [ob0_1], x ∉ (ownB hp0_1_0 ++ (b11 :: (ob0 :: (ob0_2 :: (ownB hp0_2_0 ++ (ownB hp0_3 ++ (ownB hp0_4 ++ L))))))) from (in1 (na (D.bo (i := 1) (j := 2) rfl rfl rfl) (nc (mob0_1.ne e15) (nc (D.bb (i := 0) (j := 1) rfl rfl rfl).symm (nc (D.bb (i := 1) (j := 3) rfl rfl rfl) (na (D.bo (i := 1) (j := 4) rfl rfl rfl) (na (D.bo (i := 1) (j := 5) rfl rfl rfl) (na (D.bo (i := 1) (j := 6) rfl rfl rfl) (D.bl (i := 1) rfl)))))))))) (sepC (show ∀ x ∈ ownB hp0_1_0, x ∉ (b11 :: (ob0 :: (ob0_2 :: (ownB hp0_2_0 ++ (ownB hp0_3 ++ (ownB hp0_4 ++ L)))))) from (fun x hx => (nc (nbo (qhp0_1_0.nb e15) hx) (nc (nbo (D.bo (i := 0) (j := 2) rfl rfl rfl) hx) (nc (nbo (D.ob (i := 2) (j := 3) rfl rfl rfl) hx) (na ((D.dj (i := 2) (j := 4) rfl rfl rfl) x hx) (na ((D.dj (i := 2) (j := 5) rfl rfl rfl) x hx) (na ((D.dj (i := 2) (j := 6) rfl rfl rfl) x hx) ((D.dl (i := 2) rfl) x hx))))))))) sepN)) m104 (q105.sub (fun i h => (List.mem_cons.1 h).elim (fun e => e ▸ (.tail _ (.tail _ (.head _)))) (fun h => (List.mem_append.1 h).elim (fun h => (.tail _ (.tail _ (.tail _ (List.mem_append_left _ h))))) (fun h => (List.mem_cons.1 h).elim (fun e => e ▸ (.head _)) (fun h => (List.mem_cons.1 h).elim (fun e => e ▸ (.tail _ (.head _))) (fun h => (.tail _ (.tail _ (.tail _ (List.mem_append_right _ h)))))))))) _ ht108) rfl fun v112 a109 w110 hp113 p111 sp111 => ?_)
  obtain ⟨h114, rfl, q115, g118⟩ := hp113
  have cx119 := cx22.ca g118
  have q120 := q115.mono ((Tr.refl _ _).sub (fun i h => (List.mem_cons.1 h).elim (fun e => e ▸ (.tail _ (List.mem_append_right _ (.head _)))) (fun h => (List.mem_cons.1 h).elim (fun e => e ▸ (.tail _ (List.mem_append_right _ (.tail _ (.head _))))) (fun h => (List.mem_cons.1 h).elim (fun e => e ▸ (.head _)) (fun h => (List.mem_append.1 h).elim (fun h => (.tail _ (List.mem_append_left _ h))) (fun h => (.tail _ (List.mem_append_right _ (.tail _ (.tail _ h))))))))))
  refine s1 p111.z (okMv sp111) rfl fun a121 p122 s123 => ?_
  refine s1 p122.z (okExt (vs := [_, _]) s123 rfl) rfl fun a124 p125 s126 => ?_
  have s127 := p125.o s123 rfl
  refine s1 p125.z (okExt (vs := [_, _]) s127 rfl) rfl fun a128 p129 s130 => ?_
  have s131 := p129.o s126 rfl
  refine s1 p129.z (okAs s131) rfl fun a132 p133 s134 => ?_
  have s135 := p133.o s130 rfl
  refine s1 p133.z (okAs s135) rfl fun a136 p137 s138 => ?_
  refine rN (thenN ?_)
  refine wp_seq ?_
  refine wp_seq ?_
  refine reg ?_
  refine s1 p137.z (okMv s138) rfl fun a139 p140 s141 => ?_
  refine s1 p140.z (okENeN ef33 s141 q120 _) rfl fun a142 p143 s144 => ?_
  refine rN (thenN ?_)
  have s145 := p143.o (p140.o (p137.o (p133.o (p129.o (p125.o (p122.o (p111.o (p101.o s99 rfl) rfl) rfl) rfl) rfl) rfl) rfl) rfl) rfl
  have s146 := p143.o (p140.o (p137.o s134 rfl) rfl) rfl
  have pg147 : Pg _ [8, 9, 26, 27, 28, 29, 30, 31, 32, 33, 34, 35, 36] _ _ := ((((((((((((((Pg.refl pg83.z).st p87 rfl).st p90 rfl).st p93 rfl).st p97 rfl).st p101 rfl).st p111 rfl).st p122 rfl).st p125 rfl).st p129 rfl).st p133 rfl).st p137 rfl).st p140 rfl).st p143 rfl)
  refine cnd s144 (fun hb148 => ?_) (fun hb148 => ?_)
  ·replace h := (ifP hb148).symm.trans h
   refine wp_seq ?_
   refine reg ?_
   refine s1 pg147.z (okAs cst) rfl fun a149 p150 s151 => ?_
   refine rN (thenN ?_)
   obtain rfl := Option.some.inj h
   have m152 := m95.g0 g118
   have q153 := qhp0_0.mono (((g14.tA (Nat.le_of_eq e15.symm)).trans g21.t0).trans g118.t0)
   have m154 := m104.g0 g118
   have q155 := q105.t0 g118.t0 g118
   have m156 := m106.g0 g118
   have q157 := ((qhp0_2_0.t0 (g14.tA (Nat.le_of_eq e15.symm)) g14).t0 g21.t0 g21).t0 g118.t0 g118
   have q158 := ((qhp0_3.t0 (g14.tA (Nat.le_of_eq e15.symm)) g14).t0 g21.t0 g21).t0 g118.t0 g118
   have q159 := ((qhp0_4.t0 (g14.tA (Nat.le_of_eq e15.symm)) g14).t0 g21.t0 g21).t0 g118.t0 g118
   exact wp_ret (thenR (blkR (thenR (ret1 p150.z Try.results33 (rvT s151) ⟨_, rfl, rfl, m152, (q153.mono ((Tr.refl _ _).sub (fun i h => (.tail _ h)))), m154, (q155.sub (fun i h => (.tail _ h))), m156, (q157.sub (fun i h => (.tail _ h))), (q158.sub (fun i h => (.tail _ h))), (q159.sub (fun i h => (.tail _ h))), (sepC (show ∀ x ∈ [ob0], x ∉ (ob0_1 :: (ownB hp0_1_0 ++ (ob0_2 :: (ownB hp0_2_0 ++ (ownB hp0_3 ++ (ownB hp0_4 ++ L)))))) from (in1 (nc (D.bb (i := 0) (j := 1) rfl rfl rfl) (na (D.bo (i := 0) (j := 2) rfl rfl rfl) (nc (D.bb (i := 0) (j := 3) rfl rfl rfl) (na (D.bo (i := 0) (j := 4) rfl rfl rfl) (na (D.bo (i := 0) (j := 5) rfl rfl rfl) (na (D.bo (i := 0) (j := 6) rfl rfl rfl) (D.bl (i := 0) rfl))))))))) (sepC (show ∀ x ∈ [ob0_1], x ∉ (ownB hp0_1_0 ++ (ob0_2 :: (ownB hp0_2_0 ++ (ownB hp0_3 ++ (ownB hp0_4 ++ L))))) from (in1 (na (D.bo (i := 1) (j := 2) rfl rfl rfl) (nc (D.bb (i := 1) (j := 3) rfl rfl rfl) (na (D.bo (i := 1) (j := 4) rfl rfl rfl) (na (D.bo (i := 1) (j := 5) rfl rfl rfl) (na (D.bo (i := 1) (j := 6) rfl rfl rfl) (D.bl (i := 1) rfl)))))))) (sepC (show ∀ x ∈ ownB hp0_1_0, x ∉ (ob0_2 :: (ownB hp0_2_0 ++ (ownB hp0_3 ++ (ownB hp0_4 ++ L)))) from (fun x hx => (nc (nbo (D.ob (i := 2) (j := 3) rfl rfl rfl) hx) (na ((D.dj (i := 2) (j := 4) rfl rfl rfl) x hx) (na ((D.dj (i := 2) (j := 5) rfl rfl rfl) x hx) (na ((D.dj (i := 2) (j := 6) rfl rfl rfl) x hx) ((D.dl (i := 2) rfl) x hx))))))) (sepC (show ∀ x ∈ [ob0_2], x ∉ (ownB hp0_2_0 ++ (ownB hp0_3 ++ (ownB hp0_4 ++ L))) from (in1 (na (D.bo (i := 3) (j := 4) rfl rfl rfl) (na (D.bo (i := 3) (j := 5) rfl rfl rfl) (na (D.bo (i := 3) (j := 6) rfl rfl rfl) (D.bl (i := 3) rfl)))))) (sepC (show ∀ x ∈ ownB hp0_2_0, x ∉ (ownB hp0_3 ++ (ownB hp0_4 ++ L)) from (fun x hx => (na ((D.dj (i := 4) (j := 5) rfl rfl rfl) x hx) (na ((D.dj (i := 4) (j := 6) rfl rfl rfl) x hx) ((D.dl (i := 4) rfl) x hx))))) (sepC (show ∀ x ∈ ownB hp0_3, x ∉ (ownB hp0_4 ++ L) from (fun x hx => (na ((D.dj (i := 5) (j := 6) rfl rfl rfl) x hx) ((D.dl (i := 5) rfl) x hx)))) (sepC (show ∀ x ∈ ownB hp0_4, x ∉ L from (fun x hx => ((D.dl (i := 6) rfl) x hx))) sepN))))))), (show ∀ b ∈ (ob0 :: (ob0_1 :: (ownB hp0_1_0 ++ (ob0_2 :: (ownB hp0_2_0 ++ (ownB hp0_3 ++ (ownB hp0_4 ++ L))))))), b < w110.heap.size from (fun i h => cx119.lt i (.tail _ h))), cx119.g⟩))))
  replace h := (ifN hb148).symm.trans h
  refine wp_skip (thenN ?_)
  refine wp_seq ?_
  refine regT 7 mixed (by kernel_rfl) ?_
  have g160 := G.drew w110
  have cx161 := cx119.ca g160
  have s162 := pg147.o s78 rfl
  refine t1 pg147.z (okMv s162) rfl fun a163 p164 s165 => ?_
  have s166 := p164.o (pg147.o s79 rfl) rfl
  refine t1 p164.z (okFA (o' := 1) fo40_1 s166 rfl) rfl fun a167 p168 s169 => ?_
  have m170 := (m31.g0 g118).g0 g160
  refine t1 p168.z (okLd (j := 1) na3 s169 (m170.cl) rfl rfl) rfl fun a171 p172 s173 => ?_
  have s174 := p172.o (p168.o (p164.o s146 rfl) rfl) rfl
  refine t1 p172.z (okMv s174) rfl fun a175 p176 s177 => ?_
  have s178 := p176.o (p172.o (p168.o s165 rfl) rfl) rfl
  refine t1 p176.z (okNil s178) rfl fun a179 p180 s181 => ?_
  refine t1 p180.z (okFA (o' := x2.toNat * 17 + 1) fo66_1 s181 rfl) rfl fun a182 p183 s184 => ?_
  have s185 := p183.o (p180.o (p176.o s173 rfl) rfl) rfl
  by_cases hi186 : 0 ≤ x1.a ∧ x1.a < 16
  case neg => rw [if_neg hi186] at h; cases h
  replace h := (if_pos hi186).symm.trans h
  refine t1 p183.z (okIA Try.underlying64 Try.sizeOf2 s184 s185 hi186) rfl fun a187 p188 s189 => ?_
  refine tN ?_
  have s190 := p188.o (p183.o (p180.o s177 rfl) rfl) rfl
  have e191 := (e47.g0 g118).g0 g160
  have q192 := (((qhp0_3.t0 (g14.tA (Nat.le_of_eq e15.symm)) g14).t0 g21.t0 g21).t0 g118.t0 g118).t0 g160.t0 g160
  have m196 := (m95.g0 g118).g0 g160
  have m197 := (m104.g0 g118).g0 g160
  have m198 := (m106.g0 g118).g0 g160
  refine lS (oStoE (K := KTFrame) (e' := ({ y1 with r := y1.r.set x1.a t107.1 })) (vs := [.int .i64 t107.1]) (j := 1 + x1.a.toNat) p188.z s189 s190 q192 hy2 eb2 e191 (fun _ h => (.tail _ (.tail _ (.tail _ (List.mem_append_right _ (.tail _ (List.mem_append_right _ (List.mem_append_left _ h)))))))) (Nat.add_assoc _ _ _).symm Try.sizeOf2 rfl one1 rfl (ble (by have := hi186; show 1 + _ + 1 ≤ 17; omega)) (TFrame.C_r_set _ hi186 _) rfl fun w193 q194 g195 => ?_)
  have cx199 := cx161.cs g195 (fun _ h => .inl (.tail _ (.tail _ (List.mem_append_right _ (.tail _ (List.mem_append_right _ (List.mem_append_left _ h)))))))
  refine rN (thenN ?_)
  refine wp_seq ?_
  refine reg ?_
  refine s1 p188.z (okAs cst) rfl fun a200 p201 s202 => ?_
  refine rN (thenN ?_)
  obtain rfl := Option.some.inj h
  have m203 := m196.g g195 (D.bo (i := 0) (j := 5) rfl rfl rfl)
  have q204 := qhp0_0.mono (((((g14.tA (Nat.le_of_eq e15.symm)).trans g21.t0).trans g118.t0).trans g160.t0).trans (g195.t (fun _ h => (.tail _ (.tail _ (.tail _ (List.mem_append_right _ (.tail _ (List.mem_append_right _ (List.mem_append_left _ h))))))))))
  have m205 := m197.g g195 (D.bo (i := 1) (j := 5) rfl rfl rfl)
  have q206 := ((q105.t0 g118.t0 g118).t0 g160.t0 g160).tr (g195.t (fun _ h => (.tail _ (.tail _ (.tail _ (List.mem_append_right _ (.tail _ (List.mem_append_right _ (List.mem_append_left _ h))))))))) g195 (D.dj (i := 2) (j := 5) rfl rfl rfl)
  have m207 := m198.g g195 (D.bo (i := 3) (j := 5) rfl rfl rfl)
  have q208 := ((((qhp0_2_0.t0 (g14.tA (Nat.le_of_eq e15.symm)) g14).t0 g21.t0 g21).t0 g118.t0 g118).t0 g160.t0 g160).tr (g195.t (fun _ h => (.tail _ (.tail _ (.tail _ (List.mem_append_right _ (.tail _ (List.mem_append_right _ (List.mem_append_left _ h))))))))) g195 (D.dj (i := 4) (j := 5) rfl rfl rfl)
  have q209 := ((((qhp0_4.t0 (g14.tA (Nat.le_of_eq e15.symm)) g14).t0 g21.t0 g21).t0 g118.t0 g118).t0 g160.t0 g160).tr (g195.t (fun _ h => (.tail _ (.tail _ (.tail _ (List.mem_append_right _ (.tail _ (List.mem_append_right _ (List.mem_append_left _ h))))))))) g195 (djs (D.dj (i := 5) (j := 6) rfl rfl rfl))
  exact wp_ret (blkR (thenR (ret1 p201.z Try.results33 (rvT s202) ⟨_, rfl, rfl, m203, (q204.mono ((Tr.refl _ _).sub (fun i h => (.tail _ h)))), m205, (q206.sub (fun i h => (.tail _ h))), m207, (q208.sub (fun i h => (.tail _ h))), (q194.sub (fun i h => (.tail _ h))), (q209.sub (fun i h => (.tail _ h))), (sepC (show ∀ x ∈ [ob0], x ∉ (ob0_1 :: (ownB hp0_1_0 ++ (ob0_2 :: (ownB hp0_2_0 ++ (ownB hp0_3 ++ (ownB hp0_4 ++ L)))))) from (in1 (nc (D.bb (i := 0) (j := 1) rfl rfl rfl) (na (D.bo (i := 0) (j := 2) rfl rfl rfl) (nc (D.bb (i := 0) (j := 3) rfl rfl rfl) (na (D.bo (i := 0) (j := 4) rfl rfl rfl) (na (D.bo (i := 0) (j := 5) rfl rfl rfl) (na (D.bo (i := 0) (j := 6) rfl rfl rfl) (D.bl (i := 0) rfl))))))))) (sepC (show ∀ x ∈ [ob0_1], x ∉ (ownB hp0_1_0 ++ (ob0_2 :: (ownB hp0_2_0 ++ (ownB hp0_3 ++ (ownB hp0_4 ++ L))))) from (in1 (na (D.bo (i := 1) (j := 2) rfl rfl rfl) (nc (D.bb (i := 1) (j := 3) rfl rfl rfl) (na (D.bo (i := 1) (j := 4) rfl rfl rfl) (na (D.bo (i := 1) (j := 5) rfl rfl rfl) (na (D.bo (i := 1) (j := 6) rfl rfl rfl) (D.bl (i := 1) rfl)))))))) (sepC (show ∀ x ∈ ownB hp0_1_0, x ∉ (ob0_2 :: (ownB hp0_2_0 ++ (ownB hp0_3 ++ (ownB hp0_4 ++ L)))) from (fun x hx => (nc (nbo (D.ob (i := 2) (j := 3) rfl rfl rfl) hx) (na ((D.dj (i := 2) (j := 4) rfl rfl rfl) x hx) (na ((D.dj (i := 2) (j := 5) rfl rfl rfl) x hx) (na ((D.dj (i := 2) (j := 6) rfl rfl rfl) x hx) ((D.dl (i := 2) rfl) x hx))))))) (sepC (show ∀ x ∈ [ob0_2], x ∉ (ownB hp0_2_0 ++ (ownB hp0_3 ++ (ownB hp0_4 ++ L))) from (in1 (na (D.bo (i := 3) (j := 4) rfl rfl rfl) (na (D.bo (i := 3) (j := 5) rfl rfl rfl) (na (D.bo (i := 3) (j := 6) rfl rfl rfl) (D.bl (i := 3) rfl)))))) (sepC (show ∀ x ∈ ownB hp0_2_0, x ∉ (ownB hp0_3 ++ (ownB hp0_4 ++ L)) from (fun x hx => (na ((D.dj (i := 4) (j := 5) rfl rfl rfl) x hx) (na ((D.dj (i := 4) (j := 6) rfl rfl rfl) x hx) ((D.dl (i := 4) rfl) x hx))))) (sepC (show ∀ x ∈ ownB hp0_3, x ∉ (ownB hp0_4 ++ L) from (fun x hx => (na ((D.dj (i := 5) (j := 6) rfl rfl rfl) x hx) ((D.dl (i := 5) rfl) x hx)))) (sepC (show ∀ x ∈ ownB hp0_4, x ∉ L from (fun x hx => ((D.dl (i := 6) rfl) x hx))) sepN))))))), (show ∀ b ∈ (ob0 :: (ob0_1 :: (ownB hp0_1_0 ++ (ob0_2 :: (ownB hp0_2_0 ++ (ownB hp0_3 ++ (ownB hp0_4 ++ L))))))), b < w193.heap.size from (fun i h => cx199.lt i (.tail _ h))), cx199.g⟩)))
 replace h := (ifN hb84).symm.trans h
 refine wp_seq ?_
 refine reg ?_
 refine s1 pg83.z (okEq s82 cst) rfl fun a210 p211 s212 => ?_
 refine s1 p211.z (okAs s212) rfl fun a213 p214 s215 => ?_
 refine rN (thenN ?_)
 refine cnd s215 (fun hb216 => ?_) (fun hb216 => ?_)
 ·replace h := (ifP hb216).symm.trans h
  refine wp_seq ?_
  refine regT 12 mixed (by kernel_rfl) ?_
  have g217 := G.drew w10.drew
  have cx218 := cx22.ca g217
  have s219 := p214.o (p211.o (pg83.o s0_0 rfl) rfl) rfl
  refine t1 p214.z (okMv s219) rfl fun a220 p221 s222 => ?_
  refine t1 p221.z (okNil s222) rfl fun a223 p224 s225 => ?_
  refine t1 p224.z (okFA (o' := 1) fo68_1 s225 rfl) rfl fun a226 p227 s228 => ?_
  have m229 := ((mob0.g0 g14).g0 g21).g0 g217
  refine t1 p227.z (okLd (j := 1) na24 s228 (m229.cl) rfl rfl) rfl fun a230 p231 s232 => ?_
  have s233 := p231.o (p227.o (p224.o (p221.o (p214.o (p211.o s81 rfl) rfl) rfl) rfl) rfl) rfl
  refine t1 p231.z (okMv s233) rfl fun a234 p235 s236 => ?_
  have s237 := p235.o (p231.o (p227.o (p224.o (p221.o (p214.o (p211.o s78 rfl) rfl) rfl) rfl) rfl) rfl) rfl
  refine t1 p235.z (okMv s237) rfl fun a238 p239 s240 => ?_
  have s241 := p239.o (p235.o (p231.o (p227.o (p224.o (p221.o (p214.o (p211.o s79 rfl) rfl) rfl) rfl) rfl) rfl) rfl) rfl
  refine t1 p239.z (okFA (o' := 1) fo40_1 s241 rfl) rfl fun a242 p243 s244 => ?_
  have m245 := m31.g0 g217
  refine t1 p243.z (okLd (j := 1) na3 s244 (m245.cl) rfl rfl) rfl fun a246 p247 s248 => ?_
  have s249 := p247.o (p243.o s240 rfl) rfl
  refine t1 p247.z (okNil s249) rfl fun a250 p251 s252 => ?_
  refine t1 p251.z (okFA (o' := x2.toNat * 17 + 1) fo66_1 s252 rfl) rfl fun a253 p254 s255 => ?_
  have s256 := p254.o (p251.o s248 rfl) rfl
  by_cases hi257 : 0 ≤ x1.a ∧ x1.a < 16
  case neg => rw [if_neg hi257] at h; cases h
  replace h := (if_pos hi257).symm.trans h
  refine t1 p254.z (okIA Try.underlying64 Try.sizeOf2 s255 s256 hi257) rfl fun a258 p259 s260 => ?_
  have e261 := e47.g0 g217
  refine t1 p259.z (okLd (j := 1 + x1.a.toNat) na2 s260 e261 (Nat.add_assoc _ _ _).symm (TFrame.C_r_get _ hi257)) rfl fun a262 p263 s264 => ?_
  refine tN ?_
  have s265 := p263.o (p259.o (p254.o (p251.o (p247.o (p243.o (p239.o (p235.o s232 rfl) rfl) rfl) rfl) rfl) rfl) rfl) rfl
  have s266 := p263.o (p259.o (p254.o (p251.o (p247.o (p243.o (p239.o s236 rfl) rfl) rfl) rfl) rfl) rfl) rfl
  have m267 := ((mob0_1.g0 g14).g0 g21).g0 g217
  have q268 := ((qhp0_1_0.t0 (g14.tA (Nat.le_of_eq e15.symm)) g14).t0 g21.t0 g21).t0 g217.t0 g217
  have m269 := ((mob0_2.g0 g14).g0 g21).g0 g217
  obtain ⟨t270, ht271, h⟩ := Option.bind_eq_some_iff.1 h
  refine lS (oCall p263.z Try.call21 (ag3 s265 s266 s264) (c21 (b11 :: (ob0 :: (ob0_2 :: (ownB hp0_2_0 ++ (ownB hp0_3 ++ (ownB hp0_4 ++ L)))))) w10.drew.drew x0.a ob0_1 hp0_1_0 (w64 ((y1.r.get x1.b) + x1.n)) (y1.r.get x1.a) (fun i h => cx218.lt i ((List.mem_cons.1 h).elim (fun e => e ▸ (.tail _ (.tail _ (.head _)))) (fun h => (List.mem_append.1 h).elim (fun h => (.tail _ (.tail _ (.tail _ (List.mem_append_left _ h))))) (fun h => (List.mem_cons.1 h).elim (fun e => e ▸ (.head _)) (fun h => (List.mem_cons.1 h).elim (fun e => e ▸ (.tail _ (.head _))) (fun h => (.tail _ (.tail _ (.tail _ (List.mem_append_right _ h)))))))))) (sepC (show ∀ x ∈ [ob0_1], x ∉ (ownB hp0_1_0 ++ (b11 :: (ob0 :: (ob0_2 :: (ownB hp0_2_0 ++ (ownB hp0_3 ++ (ownB hp0_4 ++ L))))))) from (in1 (na (D.bo (i := 1) (j := 2) rfl rfl rfl) (nc (mob0_1.ne e15) (nc (D.bb (i := 0) (j := 1) rfl rfl rfl).symm (nc (D.bb (i := 1) (j := 3) rfl rfl rfl) (na (D.bo (i := 1) (j := 4) rfl rfl rfl) (na (D.bo (i := 1) (j := 5) rfl rfl rfl) (na (D.bo (i := 1) (j := 6) rfl rfl rfl) (D.bl (i := 1) rfl)))))))))) (sepC (show ∀ x ∈ ownB hp0_1_0, x ∉ (b11 :: (ob0 :: (ob0_2 :: (ownB hp0_2_0 ++ (ownB hp0_3 ++ (ownB hp0_4 ++ L)))))) from (fun x hx => (nc (nbo (qhp0_1_0.nb e15) hx) (nc (nbo (D.bo (i := 0) (j := 2) rfl rfl rfl) hx) (nc (nbo (D.ob (i := 2) (j := 3) rfl rfl rfl) hx) (na ((D.dj (i := 2) (j := 4) rfl rfl rfl) x hx) (na ((D.dj (i := 2) (j := 5) rfl rfl rfl) x hx) (na ((D.dj (i := 2) (j := 6) rfl rfl rfl) x hx) ((D.dl (i := 2) rfl) x hx))))))))) sepN)) m267 (q268.sub (fun i h => (List.mem_cons.1 h).elim (fun e => e ▸ (.tail _ (.tail _ (.head _)))) (fun h => (List.mem_append.1 h).elim (fun h => (.tail _ (.tail _ (.tail _ (List.mem_append_left _ h))))) (fun h => (List.mem_cons.1 h).elim (fun e => e ▸ (.head _)) (fun h => (List.mem_cons.1 h).elim (fun e => e ▸ (.tail _ (.head _))) (fun h => (.tail _ (.tail _ (.tail _ (List.mem_append_right _ h)))))))))) _ ht271) rfl fun v275 a272 w273 hp276 p274 sp274 => ?_)
  obtain ⟨h277, rfl, q278, m279, q280, D281, lt282, g283⟩ := hp276
  have hs284 : ∀ i ∈ (ob0_1 :: (ownB hp0_1_0 ++ [])), i ∈ (ob0 :: (ob0_1 :: (ownB hp0_1_0 ++ (ob0_2 :: (ownB hp0_2_0 ++ (ownB hp0_3 ++ (ownB hp0_4 ++ []))))))) ∨ w.heap.size ≤ i := (memC (.inl (.tail _ (.head _))) (memA (fun _ h => .inl (.tail _ (.tail _ (List.mem_append_left _ h)))) memN))
  have hs285 : ∀ i ∈ (ob0_1 :: (ownB hp0_1_0 ++ [])), i ∈ (b11 :: (ob0 :: (ob0_1 :: (ownB hp0_1_0 ++ (ob0_2 :: (ownB hp0_2_0 ++ (ownB hp0_3 ++ (ownB hp0_4 ++ L)))))))) := (memC (.tail _ (.tail _ (.head _))) (memA (fun _ h => (.tail _ (.tail _ (.tail _ (List.mem_append_left _ h))))) memN))
  have t286 : Tr (b11 :: (ob0 :: (ob0_1 :: (ownB hp0_1_0 ++ (ob0_2 :: (ownB hp0_2_0 ++ (ownB hp0_3 ++ (ownB hp0_4 ++ L)))))))) w10.drew.drew (ob0_1 :: (ownB hp0_1_0 ++ (b11 :: (ob0 :: (ob0_2 :: (ownB hp0_2_0 ++ (ownB hp0_3 ++ (ownB hp0_4 ++ L)))))))) w273 := G.tC g283 hs285 (memC (.inl (.tail _ (.tail _ (.head _)))) (memA (fun _ h => .inl (.tail _ (.tail _ (.tail _ (List.mem_append_left _ h))))) (fun i h => .inl ((List.mem_cons.1 h).elim (fun e => e ▸ (.head _)) (fun h => (List.mem_cons.1 h).elim (fun e => e ▸ (.tail _ (.head _))) (fun h => (.tail _ (.tail _ (.tail _ (List.mem_append_right _ h))))))))))
  have cx287 := cx218.gs g283 hs284 lt282
  refine s1 p274.z (okEEqN ef33 sp274 q278 _) rfl fun a288 p289 s290 => ?_
  refine s1 p289.z (okAs s290) rfl fun a291 p292 s293 => ?_
  refine rN (thenN ?_)
  obtain rfl := Option.some.inj h
  have m294 := m229.g g283 (nc (D.bb (i := 0) (j := 1) rfl rfl rfl) (na (D.bo (i := 0) (j := 2) rfl rfl rfl) not_nil))
  have q295 := qhp0_0.mono ((((g14.tA (Nat.le_of_eq e15.symm)).trans g21.t0).trans g217.t0).trans t286)
  have m296 := m269.g g283 (nc (D.bb (i := 1) (j := 3) rfl rfl rfl).symm (na (D.ob (i := 2) (j := 3) rfl rfl rfl) not_nil))
  have q297 := (((qhp0_2_0.t0 (g14.tA (Nat.le_of_eq e15.symm)) g14).t0 g21.t0 g21).t0 g217.t0 g217).tr t286 g283 (fun x hx => (nc (nbo (D.bo (i := 1) (j := 4) rfl rfl rfl) hx) (na ((djs (D.dj (i := 2) (j := 4) rfl rfl rfl)) x hx) not_nil)))
  have q298 := (((qhp0_3.t0 (g14.tA (Nat.le_of_eq e15.symm)) g14).t0 g21.t0 g21).t0 g217.t0 g217).tr t286 g283 (fun x hx => (nc (nbo (D.bo (i := 1) (j := 5) rfl rfl rfl) hx) (na ((djs (D.dj (i := 2) (j := 5) rfl rfl rfl)) x hx) not_nil)))
  have q299 := (((qhp0_4.t0 (g14.tA (Nat.le_of_eq e15.symm)) g14).t0 g21.t0 g21).t0 g217.t0 g217).tr t286 g283 (fun x hx => (nc (nbo (D.bo (i := 1) (j := 6) rfl rfl rfl) hx) (na ((djs (D.dj (i := 2) (j := 6) rfl rfl rfl)) x hx) not_nil)))
  exact wp_ret (blkR (thenR (ret1 p292.z Try.results33 (rvT s293) ⟨_, rfl, rfl, m294, (q295.mono ((Tr.refl _ _).sub (fun i h => (List.mem_cons.1 h).elim (fun e => e ▸ (.tail _ (List.mem_append_right _ (.tail _ (.head _))))) (fun h => (List.mem_cons.1 h).elim (fun e => e ▸ (.head _)) (fun h => (List.mem_append.1 h).elim (fun h => (.tail _ (List.mem_append_left _ h))) (fun h => (.tail _ (List.mem_append_right _ (.tail _ (.tail _ h)))))))))), m279, (q280.sub (fun i h => (List.mem_cons.1 h).elim (fun e => e ▸ (.tail _ (List.mem_append_right _ (.tail _ (.head _))))) (fun h => (List.mem_cons.1 h).elim (fun e => e ▸ (.head _)) (fun h => (List.mem_append.1 h).elim (fun h => (.tail _ (List.mem_append_left _ h))) (fun h => (.tail _ (List.mem_append_right _ (.tail _ (.tail _ h))))))))), m296, (q297.sub (fun i h => (List.mem_cons.1 h).elim (fun e => e ▸ (.tail _ (List.mem_append_right _ (.tail _ (.head _))))) (fun h => (List.mem_cons.1 h).elim (fun e => e ▸ (.head _)) (fun h => (List.mem_append.1 h).elim (fun h => (.tail _ (List.mem_append_left _ h))) (fun h => (.tail _ (List.mem_append_right _ (.tail _ (.tail _ h))))))))), (q298.sub (fun i h => (List.mem_cons.1 h).elim (fun e => e ▸ (.tail _ (List.mem_append_right _ (.tail _ (.head _))))) (fun h => (List.mem_cons.1 h).elim (fun e => e ▸ (.head _)) (fun h => (List.mem_append.1 h).elim (fun h => (.tail _ (List.mem_append_left _ h))) (fun h => (.tail _ (List.mem_append_right _ (.tail _ (.tail _ h))))))))), (q299.sub (fun i h => (List.mem_cons.1 h).elim (fun e => e ▸ (.tail _ (List.mem_append_right _ (.tail _ (.head _))))) (fun h => (List.mem_cons.1 h).elim (fun e => e ▸ (.head _)) (fun h => (List.mem_append.1 h).elim (fun h => (.tail _ (List.mem_append_left _ h))) (fun h => (.tail _ (List.mem_append_right _ (.tail _ (.tail _ h))))))))), (sepC (show ∀ x ∈ [ob0], x ∉ (ob0_1 :: (ownB hp0_1_0 ++ (ob0_2 :: (ownB hp0_2_0 ++ (ownB hp0_3 ++ (ownB hp0_4 ++ L)))))) from (in1 (nc (D.bb (i := 0) (j := 1) rfl rfl rfl) (na (D.bo (i := 0) (j := 2) rfl rfl rfl) (nc (D.bb (i := 0) (j := 3) rfl rfl rfl) (na (D.bo (i := 0) (j := 4) rfl rfl rfl) (na (D.bo (i := 0) (j := 5) rfl rfl rfl) (na (D.bo (i := 0) (j := 6) rfl rfl rfl) (D.bl (i := 0) rfl))))))))) (sepC (show ∀ x ∈ [ob0_1], x ∉ (ownB hp0_1_0 ++ (ob0_2 :: (ownB hp0_2_0 ++ (ownB hp0_3 ++ (ownB hp0_4 ++ L))))) from (in1 (na (D.bo (i := 1) (j := 2) rfl rfl rfl) (nc (D.bb (i := 1) (j := 3) rfl rfl rfl) (na (D.bo (i := 1) (j := 4) rfl rfl rfl) (na (D.bo (i := 1) (j := 5) rfl rfl rfl) (na (D.bo (i := 1) (j := 6) rfl rfl rfl) (D.bl (i := 1) rfl)))))))) (sepC (show ∀ x ∈ ownB hp0_1_0, x ∉ (ob0_2 :: (ownB hp0_2_0 ++ (ownB hp0_3 ++ (ownB hp0_4 ++ L)))) from (fun x hx => (nc (nbo (D.ob (i := 2) (j := 3) rfl rfl rfl) hx) (na ((D.dj (i := 2) (j := 4) rfl rfl rfl) x hx) (na ((D.dj (i := 2) (j := 5) rfl rfl rfl) x hx) (na ((D.dj (i := 2) (j := 6) rfl rfl rfl) x hx) ((D.dl (i := 2) rfl) x hx))))))) (sepC (show ∀ x ∈ [ob0_2], x ∉ (ownB hp0_2_0 ++ (ownB hp0_3 ++ (ownB hp0_4 ++ L))) from (in1 (na (D.bo (i := 3) (j := 4) rfl rfl rfl) (na (D.bo (i := 3) (j := 5) rfl rfl rfl) (na (D.bo (i := 3) (j := 6) rfl rfl rfl) (D.bl (i := 3) rfl)))))) (sepC (show ∀ x ∈ ownB hp0_2_0, x ∉ (ownB hp0_3 ++ (ownB hp0_4 ++ L)) from (fun x hx => (na ((D.dj (i := 4) (j := 5) rfl rfl rfl) x hx) (na ((D.dj (i := 4) (j := 6) rfl rfl rfl) x hx) ((D.dl (i := 4) rfl) x hx))))) (sepC (show ∀ x ∈ ownB hp0_3, x ∉ (ownB hp0_4 ++ L) from (fun x hx => (na ((D.dj (i := 5) (j := 6) rfl rfl rfl) x hx) ((D.dl (i := 5) rfl) x hx)))) (sepC (show ∀ x ∈ ownB hp0_4, x ∉ L from (fun x hx => ((D.dl (i := 6) rfl) x hx))) sepN))))))), (show ∀ b ∈ (ob0 :: (ob0_1 :: (ownB hp0_1_0 ++ (ob0_2 :: (ownB hp0_2_0 ++ (ownB hp0_3 ++ (ownB hp0_4 ++ L))))))), b < w273.heap.size from (fun i h => cx287.lt i ((List.mem_cons.1 h).elim (fun e => e ▸ (.tail _ (List.mem_append_right _ (.tail _ (.head _))))) (fun h => (List.mem_cons.1 h).elim (fun e => e ▸ (.head _)) (fun h => (List.mem_append.1 h).elim (fun h => (.tail _ (List.mem_append_left _ h))) (fun h => (.tail _ (List.mem_append_right _ (.tail _ (.tail _ h)))))))))), cx287.g⟩)))
 replace h := (ifN hb216).symm.trans h
 refine wp_skip (blkN (thenN ?_))
 refine wp_seq ?_
 have q300 := qhp0_0.mono ((g14.tA (Nat.le_of_eq e15.symm)).trans g21.t0)
 have q301 := (qhp0_1_0.t0 (g14.tA (Nat.le_of_eq e15.symm)) g14).t0 g21.t0 g21
 have q302 := (qhp0_2_0.t0 (g14.tA (Nat.le_of_eq e15.symm)) g14).t0 g21.t0 g21
 have q303 := (qhp0_3.t0 (g14.tA (Nat.le_of_eq e15.symm)) g14).t0 g21.t0 g21
 have q304 := (qhp0_4.t0 (g14.tA (Nat.le_of_eq e15.symm)) g14).t0 g21.t0 g21
 by_cases hi342 : 0 ≤ x1.a ∧ x1.a < 16
 case neg => rw [if_neg hi342] at h; cases h
 replace h := (if_pos hi342).symm.trans h
 by_cases hi371 : 0 ≤ (w64 (x1.a + 1)) ∧ (w64 (x1.a + 1)) < 16
 case neg => rw [if_neg hi371] at h; cases h
 replace h := (if_pos hi371).symm.trans h
 obtain ⟨t383, ht384, h⟩ := Option.bind_eq_some_iff.1 h
 have s419 := p214.o (p211.o s78 rfl) rfl
 have s420 := p214.o (p211.o s79 rfl) rfl
 have s421 := p214.o (p211.o s80 rfl) rfl
 have m422 := (mob0.g0 g14).g0 g21
 have m423 := (mob0_1.g0 g14).g0 g21
 have m424 := (mob0_2.g0 g14).g0 g21
 refine regJ (fun a' w' => ∃ h390, Z Try.f33.ntmps a' ∧ a'.eval (.tmp 2) = ptr bx2 (x2.toNat * 17) ∧ a'.eval (.tmp 4) = ptr b11 0 ∧ a'.eval (.tmp 6) = .bool false ∧ a'.eval (.tmp 10) = .bool t383.1 ∧ a'.eval (.tmp 11) = h390 ∧ Bk w' ob0 (Tmicro_machine.C ({ x0 with a := default, t := default }) hp0_0 (ptr ob0_1 0) (ptr ob0_2 0) hp0_3 hp0_4) 68 ∧ Bk w' ob0_1 (Tcell_Arena.C t383.2.2 hp0_1_0) 72 ∧ Bk w' ob0_2 (Tpermit_Table.C x0.t hp0_2_0) 78 ∧ Bk w' b11 (TIns.C x1) 40 ∧ ErG 36 0 (b11 :: (ob0 :: (ob0_1 :: (ownB hp0_1_0 ++ (ob0_2 :: (ownB hp0_2_0 ++ (ownB hp0_3 ++ (ownB hp0_4 ++ L)))))))) w' h390 t383.2.1 ∧ OwnS (KInt .i64) 2 (b11 :: (ob0 :: (ob0_1 :: (ownB hp0_1_0 ++ (ob0_2 :: (ownB hp0_2_0 ++ (ownB hp0_3 ++ (ownB hp0_4 ++ L)))))))) w' hp0_1_0 t383.2.2.l ∧ OwnS KTPark 59 (b11 :: (ob0 :: (ob0_1 :: (ownB hp0_1_0 ++ (ob0_2 :: (ownB hp0_2_0 ++ (ownB hp0_3 ++ (ownB hp0_4 ++ L)))))))) w' hp0_2_0 x0.t.l ∧ OwnS KTFrame 66 (b11 :: (ob0 :: (ob0_1 :: (ownB hp0_1_0 ++ (ob0_2 :: (ownB hp0_2_0 ++ (ownB hp0_3 ++ (ownB hp0_4 ++ L)))))))) w' hp0_3 x0.l ∧ OwnS KTNote 80 (b11 :: (ob0 :: (ob0_1 :: (ownB hp0_1_0 ++ (ob0_2 :: (ownB hp0_2_0 ++ (ownB hp0_3 ++ (ownB hp0_4 ++ L)))))))) w' hp0_4 x0.notes ∧ Cx (ob0 :: (ob0_1 :: (ownB hp0_1_0 ++ (ob0_2 :: (ownB hp0_2_0 ++ (ownB hp0_3 ++ (ownB hp0_4 ++ []))))))) w (b11 :: (ob0 :: (ob0_1 :: (ownB hp0_1_0 ++ (ob0_2 :: (ownB hp0_2_0 ++ (ownB hp0_3 ++ (ownB hp0_4 ++ L)))))))) w' ∧ Tr (b11 :: (ob0 :: (ob0_1 :: (ownB hp0_1_0 ++ (ob0_2 :: (ownB hp0_2_0 ++ (ownB hp0_3 ++ (ownB hp0_4 ++ L)))))))) w10.drew (b11 :: (ob0 :: (ob0_1 :: (ownB hp0_1_0 ++ (ob0_2 :: (ownB hp0_2_0 ++ (ownB hp0_3 ++ (ownB hp0_4 ++ L)))))))) w') ?_ ?_
 ·refine regH (n := 26) [(3, fun w' => Cl w' ob0 1 [ptr ob0_1 0]), (7, fun w' => Cl w' b11 1 [.int .i64 x1.a]), (11, fun w' => Cl w' bx2 (x2.toNat * 17 + 1 + x1.a.toNat) [.int .i64 (y1.r.get x1.a)]), (14, fun w' => Cl w' b11 1 [.int .i64 x1.a]), (19, fun w' => Cl w' bx2 (x2.toNat * 17 + 1 + (w64 (x1.a + 1)).toNat) [.int .i64 (y1.r.get (w64 (x1.a + 1)))])] mixed rfl ?_
  have g425 := G.drew w10.drew
  have cx426 := cx22.ca g425
  have s427 := p214.o (p211.o (pg83.o s0_0 rfl) rfl) rfl
  refine hTakeW (i := 0) rfl (by kernel_rfl) (by kernel_rfl) (by kernel_rfl) nrm (cond := fun _ => True) (.inl fun _ => trivial) p214.z (wN rfl) (fun _ _ => okMv s427) trivial rfl fun a428 p429 sp429 => ?_
  refine hTakeW (i := 1) rfl (by kernel_rfl) (by kernel_rfl) (by kernel_rfl) nrm (cond := fun _ => True) (.inl fun _ => trivial) p429.z (wN rfl) (fun _ _ => okNil sp429) trivial rfl fun a430 p431 sp431 => ?_
  refine hTakeW (i := 2) rfl (by kernel_rfl) (by kernel_rfl) (by kernel_rfl) nrm (cond := fun _ => True) (.inl fun _ => trivial) p431.z (wN rfl) (fun _ _ => okFA (o' := 1) fo68_1 sp431 rfl) trivial rfl fun a432 p433 sp433 => ?_
  have m434 := m422.g0 g425
  refine hTakeW (i := 3) rfl (by kernel_rfl) (by kernel_rfl) (by kernel_rfl) nrm (.inr (.head _)) p433.z (wN rfl) (fun _ h => okLd (j := 0) na24 sp433 h rfl rfl) (m434.clp rfl) rfl fun a435 p436 sp436 => ?_
  have s437 := p436.o (p433.o (p431.o (p429.o (p214.o (p211.o s81 rfl) rfl) rfl) rfl) rfl) rfl
  refine hTakeW (i := 4) rfl (by kernel_rfl) (by kernel_rfl) (by kernel_rfl) nrm (cond := fun _ => True) (.inl fun _ => trivial) p436.z (wN rfl) (fun _ _ => okMv s437) trivial rfl fun a438 p439 sp439 => ?_
  have s440 := p439.o (p436.o (p433.o (p431.o (p429.o s419 rfl) rfl) rfl) rfl) rfl
  refine hTakeW (i := 5) rfl (by kernel_rfl) (by kernel_rfl) (by kernel_rfl) nrm (cond := fun _ => True) (.inl fun _ => trivial) p439.z (wN rfl) (fun _ _ => okMv s440) trivial rfl fun a441 p442 sp442 => ?_
  have s443 := p442.o (p439.o (p436.o (p433.o (p431.o (p429.o s420 rfl) rfl) rfl) rfl) rfl) rfl
  refine hTakeW (i := 6) rfl (by kernel_rfl) (by kernel_rfl) (by kernel_rfl) nrm (cond := fun _ => True) (.inl fun _ => trivial) p442.z (wN rfl) (fun _ _ => okFA (o' := 1) fo40_1 s443 rfl) trivial rfl fun a444 p445 sp445 => ?_
  have m446 := m31.g0 g425
  refine hTakeW (i := 7) rfl (by kernel_rfl) (by kernel_rfl) (by kernel_rfl) nrm (.inr (.tail _ (.head _))) p445.z (wN rfl) (fun _ h => okLd (j := 0) na3 sp445 h rfl rfl) (m446.clp rfl) rfl fun a447 p448 sp448 => ?_
  have s449 := p448.o (p445.o sp442 rfl) rfl
  refine hTakeW (i := 8) rfl (by kernel_rfl) (by kernel_rfl) (by kernel_rfl) nrm (cond := fun _ => True) (.inl fun _ => trivial) p448.z (wN rfl) (fun _ _ => okNil s449) trivial rfl fun a450 p451 sp451 => ?_
  refine hTakeW (i := 9) rfl (by kernel_rfl) (by kernel_rfl) (by kernel_rfl) nrm (cond := fun _ => True) (.inl fun _ => trivial) p451.z (wN rfl) (fun _ _ => okFA (o' := x2.toNat * 17 + 1) fo66_1 sp451 rfl) trivial rfl fun a452 p453 sp453 => ?_
  have s454 := p453.o (p451.o sp448 rfl) rfl
  refine hTakeW (i := 10) rfl (by kernel_rfl) (by kernel_rfl) (by kernel_rfl) nrm (cond := fun _ => True) (.inl fun _ => trivial) p453.z (wN rfl) (fun _ _ => okIA Try.underlying64 Try.sizeOf2 sp453 s454 hi342) trivial rfl fun a455 p456 sp456 => ?_
  have e457 := e47.g0 g425
  refine hTakeW (i := 11) rfl (by kernel_rfl) (by kernel_rfl) (by kernel_rfl) nrm (.inr (.tail _ (.tail _ (.head _)))) p456.z (wN rfl) (fun _ h => okLd (j := 0) na2 sp456 h rfl rfl) (clE (TFrame.C_r_get _ hi342) e457 (Nat.add_assoc _ _ _).symm) rfl fun a458 p459 sp459 => ?_
  have s460 := p459.o (p456.o (p453.o (p451.o (p448.o (p445.o (p442.o s440 rfl) rfl) rfl) rfl) rfl) rfl) rfl
  refine hTakeW (i := 12) rfl (by kernel_rfl) (by kernel_rfl) (by kernel_rfl) nrm (cond := fun _ => True) (.inl fun _ => trivial) p459.z (wN rfl) (fun _ _ => okMv s460) trivial rfl fun a461 p462 sp462 => ?_
  have s463 := p462.o (p459.o (p456.o (p453.o (p451.o (p448.o (p445.o s443 rfl) rfl) rfl) rfl) rfl) rfl) rfl
  refine hTakeW (i := 13) rfl (by kernel_rfl) (by kernel_rfl) (by kernel_rfl) nrm (cond := fun _ => True) (.inl fun _ => trivial) p462.z (wN rfl) (fun _ _ => okFA (o' := 1) fo40_1 s463 rfl) trivial rfl fun a464 p465 sp465 => ?_
  refine hTakeW (i := 14) rfl (by kernel_rfl) (by kernel_rfl) (by kernel_rfl) nrm (.inr (.tail _ (.tail _ (.tail _ (.head _))))) p465.z (wN rfl) (fun _ h => okLd (j := 0) na3 sp465 h rfl rfl) (m446.clp rfl) rfl fun a466 p467 sp467 => ?_
  refine hTakeW (i := 15) rfl (by kernel_rfl) (by kernel_rfl) (by kernel_rfl) nrm (cond := fun _ => True) (.inl fun _ => trivial) p467.z (wN rfl) (fun _ _ => okAdd sp467 cst) trivial rfl fun a468 p469 sp469 => ?_
  have s470 := p469.o (p467.o (p465.o sp462 rfl) rfl) rfl
  refine hTakeW (i := 16) rfl (by kernel_rfl) (by kernel_rfl) (by kernel_rfl) nrm (cond := fun _ => True) (.inl fun _ => trivial) p469.z (wN rfl) (fun _ _ => okNil s470) trivial rfl fun a471 p472 sp472 => ?_
  refine hTakeW (i := 17) rfl (by kernel_rfl) (by kernel_rfl) (by kernel_rfl) nrm (cond := fun _ => True) (.inl fun _ => trivial) p472.z (wN rfl) (fun _ _ => okFA (o' := x2.toNat * 17 + 1) fo66_1 sp472 rfl) trivial rfl fun a473 p474 sp474 => ?_
  have s475 := p474.o (p472.o sp469 rfl) rfl
  refine hTakeW (i := 18) rfl (by kernel_rfl) (by kernel_rfl) (by kernel_rfl) nrm (cond := fun _ => True) (.inl fun _ => trivial) p474.z (wN rfl) (fun _ _ => okIA Try.underlying64 Try.sizeOf2 sp474 s475 hi371) trivial rfl fun a476 p477 sp477 => ?_
  refine hTakeW (i := 19) rfl (by kernel_rfl) (by kernel_rfl) (by kernel_rfl) nrm (.inr (.tail _ (.tail _ (.tail _ (.tail _ (.head _)))))) p477.z (wN rfl) (fun _ h => okLd (j := 0) na2 sp477 h rfl rfl) (clE (TFrame.C_r_get _ hi371) e457 (Nat.add_assoc _ _ _).symm) rfl fun a478 p479 sp479 => ?_
  have s480 := p479.o (p477.o (p474.o (p472.o (p469.o (p467.o (p465.o (p462.o (p459.o (p456.o (p453.o (p451.o (p448.o (p445.o (p442.o (p439.o sp436 rfl) rfl) rfl) rfl) rfl) rfl) rfl) rfl) rfl) rfl) rfl) rfl) rfl) rfl) rfl) rfl
  have s481 := p479.o (p477.o (p474.o (p472.o (p469.o (p467.o (p465.o (p462.o (p459.o (p456.o (p453.o (p451.o (p448.o (p445.o (p442.o sp439 rfl) rfl) rfl) rfl) rfl) rfl) rfl) rfl) rfl) rfl) rfl) rfl) rfl) rfl) rfl
  have s482 := p479.o (p477.o (p474.o (p472.o (p469.o (p467.o (p465.o (p462.o sp459 rfl) rfl) rfl) rfl) rfl) rfl) rfl) rfl
  have m483 := m423.g0 g425
  have q484 := q301.t0 g425.t0 g425
  have m485 := m424.g0 g425
  refine hOne (i := 20) (by kernel_rfl) rfl (oCall p479.z Try.call38 (ag4 s480 s481 s482 sp479) (c38 (b11 :: (ob0 :: (ob0_2 :: (ownB hp0_2_0 ++ (ownB hp0_3 ++ (ownB hp0_4 ++ L)))))) w10.drew.drew x0.a ob0_1 hp0_1_0 (w64 ((y1.r.get x1.b) + x1.n)) (y1.r.get x1.a) (y1.r.get (w64 (x1.a + 1))) (fun i h => cx426.lt i ((List.mem_cons.1 h).elim (fun e => e ▸ (.tail _ (.tail _ (.head _)))) (fun h => (List.mem_append.1 h).elim (fun h => (.tail _ (.tail _ (.tail _ (List.mem_append_left _ h))))) (fun h => (List.mem_cons.1 h).elim (fun e => e ▸ (.head _)) (fun h => (List.mem_cons.1 h).elim (fun e => e ▸ (.tail _ (.head _))) (fun h => (.tail _ (.tail _ (.tail _ (List.mem_append_right _ h)))))))))) (sepC (show ∀ x ∈ [ob0_1], x ∉ (ownB hp0_1_0 ++ (b11 :: (ob0 :: (ob0_2 :: (ownB hp0_2_0 ++ (ownB hp0_3 ++ (ownB hp0_4 ++ L))))))) from (in1 (na (D.bo (i := 1) (j := 2) rfl rfl rfl) (nc (mob0_1.ne e15) (nc (D.bb (i := 0) (j := 1) rfl rfl rfl).symm (nc (D.bb (i := 1) (j := 3) rfl rfl rfl) (na (D.bo (i := 1) (j := 4) rfl rfl rfl) (na (D.bo (i := 1) (j := 5) rfl rfl rfl) (na (D.bo (i := 1) (j := 6) rfl rfl rfl) (D.bl (i := 1) rfl)))))))))) (sepC (show ∀ x ∈ ownB hp0_1_0, x ∉ (b11 :: (ob0 :: (ob0_2 :: (ownB hp0_2_0 ++ (ownB hp0_3 ++ (ownB hp0_4 ++ L)))))) from (fun x hx => (nc (nbo (qhp0_1_0.nb e15) hx) (nc (nbo (D.bo (i := 0) (j := 2) rfl rfl rfl) hx) (nc (nbo (D.ob (i := 2) (j := 3) rfl rfl rfl) hx) (na ((D.dj (i := 2) (j := 4) rfl rfl rfl) x hx) (na ((D.dj (i := 2) (j := 5) rfl rfl rfl) x hx) (na ((D.dj (i := 2) (j := 6) rfl rfl rfl) x hx) ((D.dl (i := 2) rfl) x hx))))))))) sepN)) m483 (q484.sub (fun i h => (List.mem_cons.1 h).elim (fun e => e ▸ (.tail _ (.tail _ (.head _)))) (fun h => (List.mem_append.1 h).elim (fun h => (.tail _ (.tail _ (.tail _ (List.mem_append_left _ h))))) (fun h => (List.mem_cons.1 h).elim (fun e => e ▸ (.head _)) (fun h => (List.mem_cons.1 h).elim (fun e => e ▸ (.tail _ (.head _))) (fun h => (.tail _ (.tail _ (.tail _ (List.mem_append_right _ h)))))))))) _ ht384) rfl fun v489 a486 w487 hp490 p488 sp488 => ?_)
  obtain ⟨h491, rfl, q492, m493, q494, D495, lt496, g497⟩ := hp490
  have hs498 : ∀ i ∈ (ob0_1 :: (ownB hp0_1_0 ++ [])), i ∈ (ob0 :: (ob0_1 :: (ownB hp0_1_0 ++ (ob0_2 :: (ownB hp0_2_0 ++ (ownB hp0_3 ++ (ownB hp0_4 ++ []))))))) ∨ w.heap.size ≤ i := (memC (.inl (.tail _ (.head _))) (memA (fun _ h => .inl (.tail _ (.tail _ (List.mem_append_left _ h)))) memN))
  have hs499 : ∀ i ∈ (ob0_1 :: (ownB hp0_1_0 ++ [])), i ∈ (b11 :: (ob0 :: (ob0_1 :: (ownB hp0_1_0 ++ (ob0_2 :: (ownB hp0_2_0 ++ (ownB hp0_3 ++ (ownB hp0_4 ++ L)))))))) := (memC (.tail _ (.tail _ (.head _))) (memA (fun _ h => (.tail _ (.tail _ (.tail _ (List.mem_append_left _ h))))) memN))
  have t500 : Tr (b11 :: (ob0 :: (ob0_1 :: (ownB hp0_1_0 ++ (ob0_2 :: (ownB hp0_2_0 ++ (ownB hp0_3 ++ (ownB hp0_4 ++ L)))))))) w10.drew.drew (ob0_1 :: (ownB hp0_1_0 ++ (b11 :: (ob0 :: (ob0_2 :: (ownB hp0_2_0 ++ (ownB hp0_3 ++ (ownB hp0_4 ++ L)))))))) w487 := G.tC g497 hs499 (memC (.inl (.tail _ (.tail _ (.head _)))) (memA (fun _ h => .inl (.tail _ (.tail _ (.tail _ (List.mem_append_left _ h))))) (fun i h => .inl ((List.mem_cons.1 h).elim (fun e => e ▸ (.head _)) (fun h => (List.mem_cons.1 h).elim (fun e => e ▸ (.tail _ (.head _))) (fun h => (.tail _ (.tail _ (.tail _ (List.mem_append_right _ h))))))))))
  have cx501 := cx426.gs g497 hs498 lt496
  have m502 := m446.g g497 (nc (mob0_1.ne e15).symm (na (qhp0_1_0.nb e15) not_nil))
  refine ⟨⟨.inl (by kernel_rfl), .inl (by kernel_rfl), .inl (by kernel_rfl), .inr fun _ => (m502.clp rfl), .inl (by kernel_rfl), trivial⟩, ?_⟩
  refine hTakeW (i := 21) rfl (by kernel_rfl) (by kernel_rfl) (by kernel_rfl) nrm (cond := fun _ => True) (.inl fun _ => trivial) p488.z (wN rfl) (fun _ _ => okMv sp488) trivial rfl fun a503 p504 sp504 => ?_
  refine hTakeW (i := 22) rfl (by kernel_rfl) (by kernel_rfl) (by kernel_rfl) nrm (cond := fun _ => True) (.inl fun _ => trivial) p504.z (wN rfl) (fun _ _ => okExt (vs := [_, _]) sp504 rfl) trivial rfl fun a505 p506 sp506 => ?_
  have s507 := p506.o sp504 rfl
  refine hTakeW (i := 23) rfl (by kernel_rfl) (by kernel_rfl) (by kernel_rfl) nrm (cond := fun _ => True) (.inl fun _ => trivial) p506.z (wN rfl) (fun _ _ => okExt (vs := [_, _]) s507 rfl) trivial rfl fun a508 p509 sp509 => ?_
  have s510 := p509.o sp506 rfl
  refine hTakeW (i := 24) rfl (by kernel_rfl) (by kernel_rfl) (by kernel_rfl) nrm (cond := fun _ => True) (.inl fun _ => trivial) p509.z (wN rfl) (fun _ _ => okAs s510) trivial rfl fun a511 p512 sp512 => ?_
  have s513 := p512.o sp509 rfl
  refine hTakeW (i := 25) rfl (by kernel_rfl) (by kernel_rfl) (by kernel_rfl) nrm (cond := fun _ => True) (.inl fun _ => trivial) p512.z (wN rfl) (fun _ _ => okAs s513) trivial rfl fun a514 p515 sp515 => ?_
  have q516 := (q302.t0 g425.t0 g425).tr t500 g497 (fun x hx => (nc (nbo (D.bo (i := 1) (j := 4) rfl rfl rfl) hx) (na ((djs (D.dj (i := 2) (j := 4) rfl rfl rfl)) x hx) not_nil)))
  have q517 := (q303.t0 g425.t0 g425).tr t500 g497 (fun x hx => (nc (nbo (D.bo (i := 1) (j := 5) rfl rfl rfl) hx) (na ((djs (D.dj (i := 2) (j := 5) rfl rfl rfl)) x hx) not_nil)))
  have q518 := (q304.t0 g425.t0 g425).tr t500 g497 (fun x hx => (nc (nbo (D.bo (i := 1) (j := 6) rfl rfl rfl) hx) (na ((djs (D.dj (i := 2) (j := 6) rfl rfl rfl)) x hx) not_nil)))
  have s519 := p515.o (p512.o (p509.o (p506.o (p504.o (p488.o (p479.o (p477.o (p474.o (p472.o (p469.o (p467.o (p465.o (p462.o s460 rfl) rfl) rfl) rfl) rfl) rfl) rfl) rfl) rfl) rfl) rfl) rfl) rfl) rfl
  have s520 := p515.o (p512.o (p509.o (p506.o (p504.o (p488.o (p479.o (p477.o (p474.o (p472.o (p469.o (p467.o (p465.o s463 rfl) rfl) rfl) rfl) rfl) rfl) rfl) rfl) rfl) rfl) rfl) rfl) rfl
  have s521 := p515.o (p512.o (p509.o (p506.o (p504.o (p488.o (p479.o (p477.o (p474.o (p472.o (p469.o (p467.o (p465.o (p462.o (p459.o (p456.o (p453.o (p451.o (p448.o (p445.o (p442.o (p439.o (p436.o (p433.o (p431.o (p429.o s421 rfl) rfl) rfl) rfl) rfl) rfl) rfl) rfl) rfl) rfl) rfl) rfl) rfl) rfl) rfl) rfl) rfl) rfl) rfl) rfl) rfl) rfl) rfl) rfl) rfl) rfl
  have s522 := p515.o sp512 rfl
  have m523 := m434.g g497 (nc (D.bb (i := 0) (j := 1) rfl rfl rfl) (na (D.bo (i := 0) (j := 2) rfl rfl rfl) not_nil))
  have m524 := m485.g g497 (nc (D.bb (i := 1) (j := 3) rfl rfl rfl).symm (na (D.ob (i := 2) (j := 3) rfl rfl rfl) not_nil))
  exact hDone (by kernel_rfl) ⟨rfl, h491, p515.z, s519, s520, s521, s522, sp515, m523, m493, m524, m502, (q492.mono ((Tr.refl _ _).sub (fun i h => (List.mem_cons.1 h).elim (fun e => e ▸ (.tail _ (List.mem_append_right _ (.head _)))) (fun h => (List.mem_cons.1 h).elim (fun e => e ▸ (.tail _ (List.mem_append_right _ (.tail _ (.head _))))) (fun h => (List.mem_cons.1 h).elim (fun e => e ▸ (.head _)) (fun h => (List.mem_append.1 h).elim (fun h => (.tail _ (List.mem_append_left _ h))) (fun h => (.tail _ (List.mem_append_right _ (.tail _ (.tail _ h))))))))))), (q494.sub (fun i h => (List.mem_cons.1 h).elim (fun e => e ▸ (.tail _ (List.mem_append_right _ (.head _)))) (fun h => (List.mem_cons.1 h).elim (fun e => e ▸ (.tail _ (List.mem_append_right _ (.tail _ (.head _))))) (fun h => (List.mem_cons.1 h).elim (fun e => e ▸ (.head _)) (fun h => (List.mem_append.1 h).elim (fun h => (.tail _ (List.mem_append_left _ h))) (fun h => (.tail _ (List.mem_append_right _ (.tail _ (.tail _ h)))))))))), (q516.sub (fun i h => (List.mem_cons.1 h).elim (fun e => e ▸ (.tail _ (List.mem_append_right _ (.head _)))) (fun h => (List.mem_cons.1 h).elim (fun e => e ▸ (.tail _ (List.mem_append_right _ (.tail _ (.head _))))) (fun h => (List.mem_cons.1 h).elim (fun e => e ▸ (.head _)) (fun h => (List.mem_append.1 h).elim (fun h => (.tail _ (List.mem_append_left _ h))) (fun h => (.tail _ (List.mem_append_right _ (.tail _ (.tail _ h)))))))))), (q517.sub (fun i h => (List.mem_cons.1 h).elim (fun e => e ▸ (.tail _ (List.mem_append_right _ (.head _)))) (fun h => (List.mem_cons.1 h).elim (fun e => e ▸ (.tail _ (List.mem_append_right _ (.tail _ (.head _))))) (fun h => (List.mem_cons.1 h).elim (fun e => e ▸ (.head _)) (fun h => (List.mem_append.1 h).elim (fun h => (.tail _ (List.mem_append_left _ h))) (fun h => (.tail _ (List.mem_append_right _ (.tail _ (.tail _ h)))))))))), (q518.sub (fun i h => (List.mem_cons.1 h).elim (fun e => e ▸ (.tail _ (List.mem_append_right _ (.head _)))) (fun h => (List.mem_cons.1 h).elim (fun e => e ▸ (.tail _ (List.mem_append_right _ (.tail _ (.head _))))) (fun h => (List.mem_cons.1 h).elim (fun e => e ▸ (.head _)) (fun h => (List.mem_append.1 h).elim (fun h => (.tail _ (List.mem_append_left _ h))) (fun h => (.tail _ (List.mem_append_right _ (.tail _ (.tail _ h)))))))))), (cx501.sub (fun i h => (List.mem_cons.1 h).elim (fun e => e ▸ (.tail _ (List.mem_append_right _ (.head _)))) (fun h => (List.mem_cons.1 h).elim (fun e => e ▸ (.tail _ (List.mem_append_right _ (.tail _ (.head _))))) (fun h => (List.mem_cons.1 h).elim (fun e => e ▸ (.head _)) (fun h => (List.mem_append.1 h).elim (fun h => (.tail _ (List.mem_append_left _ h))) (fun h => (.tail _ (List.mem_append_right _ (.tail _ (.tail _ h)))))))))), ((g425.t0.trans t500).sub (fun i h => (List.mem_cons.1 h).elim (fun e => e ▸ (.tail _ (List.mem_append_right _ (.head _)))) (fun h => (List.mem_cons.1 h).elim (fun e => e ▸ (.tail _ (List.mem_append_right _ (.tail _ (.head _))))) (fun h => (List.mem_cons.1 h).elim (fun e => e ▸ (.head _)) (fun h => (List.mem_append.1 h).elim (fun h => (.tail _ (List.mem_append_left _ h))) (fun h => (.tail _ (List.mem_append_right _ (.tail _ (.tail _ h))))))))))⟩
 rintro a525 w526 ⟨h528, z527, s529, s530, s531, s532, s533, m534, m535, m536, m537, q538, q539, q540, q541, q542, cx543, t544⟩
 refine thenN ?_
 refine wp_seq ?_
 refine wp_seq ?_
 refine reg ?_
 refine s1 z527 (okMv s533) rfl fun a545 p546 s547 => ?_
 refine s1 p546.z (okENeN ef33 s547 q538 _) rfl fun a548 p549 s550 => ?_
 refine rN (thenN ?_)
 refine cnd s550 (fun hb551 => ?_) (fun hb551 => ?_)
 ·replace h := (ifP hb551).symm.trans h
  refine wp_seq ?_
  refine reg ?_
  refine s1 p549.z (okAs cst) rfl fun a552 p553 s554 => ?_
  refine rN (thenN ?_)
  obtain rfl := Option.some.inj h
  have q555 := q300.mono t544
  exact wp_ret (thenR (ret1 p553.z Try.results33 (rvT s554) ⟨_, rfl, rfl, m534, (q555.mono ((Tr.refl _ _).sub (fun i h => (.tail _ h)))), m535, (q539.sub (fun i h => (.tail _ h))), m536, (q540.sub (fun i h => (.tail _ h))), (q541.sub (fun i h => (.tail _ h))), (q542.sub (fun i h => (.tail _ h))), (sepC (show ∀ x ∈ [ob0], x ∉ (ob0_1 :: (ownB hp0_1_0 ++ (ob0_2 :: (ownB hp0_2_0 ++ (ownB hp0_3 ++ (ownB hp0_4 ++ L)))))) from (in1 (nc (D.bb (i := 0) (j := 1) rfl rfl rfl) (na (D.bo (i := 0) (j := 2) rfl rfl rfl) (nc (D.bb (i := 0) (j := 3) rfl rfl rfl) (na (D.bo (i := 0) (j := 4) rfl rfl rfl) (na (D.bo (i := 0) (j := 5) rfl rfl rfl) (na (D.bo (i := 0) (j := 6) rfl rfl rfl) (D.bl (i := 0) rfl))))))))) (sepC (show ∀ x ∈ [ob0_1], x ∉ (ownB hp0_1_0 ++ (ob0_2 :: (ownB hp0_2_0 ++ (ownB hp0_3 ++ (ownB hp0_4 ++ L))))) from (in1 (na (D.bo (i := 1) (j := 2) rfl rfl rfl) (nc (D.bb (i := 1) (j := 3) rfl rfl rfl) (na (D.bo (i := 1) (j := 4) rfl rfl rfl) (na (D.bo (i := 1) (j := 5) rfl rfl rfl) (na (D.bo (i := 1) (j := 6) rfl rfl rfl) (D.bl (i := 1) rfl)))))))) (sepC (show ∀ x ∈ ownB hp0_1_0, x ∉ (ob0_2 :: (ownB hp0_2_0 ++ (ownB hp0_3 ++ (ownB hp0_4 ++ L)))) from (fun x hx => (nc (nbo (D.ob (i := 2) (j := 3) rfl rfl rfl) hx) (na ((D.dj (i := 2) (j := 4) rfl rfl rfl) x hx) (na ((D.dj (i := 2) (j := 5) rfl rfl rfl) x hx) (na ((D.dj (i := 2) (j := 6) rfl rfl rfl) x hx) ((D.dl (i := 2) rfl) x hx))))))) (sepC (show ∀ x ∈ [ob0_2], x ∉ (ownB hp0_2_0 ++ (ownB hp0_3 ++ (ownB hp0_4 ++ L))) from (in1 (na (D.bo (i := 3) (j := 4) rfl rfl rfl) (na (D.bo (i := 3) (j := 5) rfl rfl rfl) (na (D.bo (i := 3) (j := 6) rfl rfl rfl) (D.bl (i := 3) rfl)))))) (sepC (show ∀ x ∈ ownB hp0_2_0, x ∉ (ownB hp0_3 ++ (ownB hp0_4 ++ L)) from (fun x hx => (na ((D.dj (i := 4) (j := 5) rfl rfl rfl) x hx) (na ((D.dj (i := 4) (j := 6) rfl rfl rfl) x hx) ((D.dl (i := 4) rfl) x hx))))) (sepC (show ∀ x ∈ ownB hp0_3, x ∉ (ownB hp0_4 ++ L) from (fun x hx => (na ((D.dj (i := 5) (j := 6) rfl rfl rfl) x hx) ((D.dl (i := 5) rfl) x hx)))) (sepC (show ∀ x ∈ ownB hp0_4, x ∉ L from (fun x hx => ((D.dl (i := 6) rfl) x hx))) sepN))))))), (show ∀ b ∈ (ob0 :: (ob0_1 :: (ownB hp0_1_0 ++ (ob0_2 :: (ownB hp0_2_0 ++ (ownB hp0_3 ++ (ownB hp0_4 ++ L))))))), b < w526.heap.size from (fun i h => cx543.lt i (.tail _ h))), cx543.g⟩))
 replace h := (ifN hb551).symm.trans h
 refine wp_skip (thenN ?_)
 refine wp_seq ?_
 refine regT 7 mixed (by kernel_rfl) ?_
 have g556 := G.drew w526
 have cx557 := cx543.ca g556
 have s558 := p549.o (p546.o s529 rfl) rfl
 refine t1 p549.z (okMv s558) rfl fun a559 p560 s561 => ?_
 have s562 := p560.o (p549.o (p546.o s530 rfl) rfl) rfl
 refine t1 p560.z (okFA (o' := 1) fo40_1 s562 rfl) rfl fun a563 p564 s565 => ?_
 have m566 := m537.g0 g556
 refine t1 p564.z (okLd (j := 1) na3 s565 (m566.cl) rfl rfl) rfl fun a567 p568 s569 => ?_
 refine t1 p568.z (okAdd s569 cst) rfl fun a570 p571 s572 => ?_
 have s573 := p571.o (p568.o (p564.o s561 rfl) rfl) rfl
 refine t1 p571.z (okNil s573) rfl fun a574 p575 s576 => ?_
 refine t1 p575.z (okFA (o' := x2.toNat * 17 + 1) fo66_1 s576 rfl) rfl fun a577 p578 s579 => ?_
 have s580 := p578.o (p575.o s572 rfl) rfl
 by_cases hi581 : 0 ≤ (w64 (x1.a + 2)) ∧ (w64 (x1.a + 2)) < 16
 case neg => rw [if_neg hi581] at h; cases h
 replace h := (if_pos hi581).symm.trans h
 refine t1 p578.z (okIA Try.underlying64 Try.sizeOf2 s579 s580 hi581) rfl fun a582 p583 s584 => ?_
 refine tN ?_
 have q585 := q541.t0 g556.t0 g556
 obtain ⟨y586, hy587, h⟩ := Option.bind_eq_some_iff.1 h
 obtain ⟨b588, cs589, r590, e591, nb592, k593⟩ := q585.at_ hy587
 obtain rfl : bx2 = b588 := own1 eb2 nb592
 obtain rfl := r590
 have m597 := m534.g0 g556
 have m598 := m535.g0 g556
 have m599 := m536.g0 g556
 refine lS (oStoE (K := KTFrame) (e' := ({ y586 with r := y586.r.set (w64 (x1.a + 2)) 0 })) (vs := [.int .i64 0]) (j := 1 + (w64 (x1.a + 2)).toNat) p583.z s584 cst q585 hy587 eb2 e591 (fun _ h => (.tail _ (.tail _ (.tail _ (List.mem_append_right _ (.tail _ (List.mem_append_right _ (List.mem_append_left _ h)))))))) (Nat.add_assoc _ _ _).symm Try.sizeOf2 rfl one1 rfl (ble (by have := hi581; show 1 + _ + 1 ≤ 17; omega)) (TFrame.C_r_set _ hi581 _) rfl fun w594 q595 g596 => ?_)
 have cx600 := cx557.cs g596 (fun _ h => .inl (.tail _ (.tail _ (List.mem_append_right _ (.tail _ (List.mem_append_right _ (List.mem_append_left _ h)))))))
 refine rN (thenN ?_)
 refine wp_seq ?_
 refine wp_seq ?_
 refine reg ?_
 have s601 := p583.o (p578.o (p575.o (p571.o (p568.o (p564.o (p560.o (p549.o (p546.o s532 rfl) rfl) rfl) rfl) rfl) rfl) rfl) rfl) rfl
 refine s1 p583.z (okMv s601) rfl fun a602 p603 s604 => ?_
 refine rN (thenN ?_)
 have s605 := p603.o (p583.o (p578.o (p575.o (p571.o (p568.o (p564.o (p560.o s558 rfl) rfl) rfl) rfl) rfl) rfl) rfl) rfl
 have s606 := p603.o (p583.o (p578.o (p575.o (p571.o (p568.o (p564.o s562 rfl) rfl) rfl) rfl) rfl) rfl) rfl
 have pg607 : Pg _ [84, 85, 86, 87, 88, 89, 90, 91, 92, 93] _ _ := (((((((((((Pg.refl z527).st p546 rfl).st p549 rfl).st p560 rfl).st p564 rfl).st p568 rfl).st p571 rfl).st p575 rfl).st p578 rfl).st p583 rfl).st p603 rfl)
 refine cnd s604 (fun hb608 => ?_) (fun hb608 => ?_)
 ·replace h := (ifP hb608).symm.trans h
  refine regT 7 mixed (by kernel_rfl) ?_
  have g609 := G.drew w594
  have cx610 := cx600.ca g609
  refine t1 pg607.z (okMv s605) rfl fun a611 p612 s613 => ?_
  have s614 := p612.o s606 rfl
  refine t1 p612.z (okFA (o' := 1) fo40_1 s614 rfl) rfl fun a615 p616 s617 => ?_
  have m618 := (m566.g g596 (qhp0_3.nb e15)).g0 g609
  refine t1 p616.z (okLd (j := 1) na3 s617 (m618.cl) rfl rfl) rfl fun a619 p620 s621 => ?_
  refine t1 p620.z (okAdd s621 cst) rfl fun a622 p623 s624 => ?_
  have s625 := p623.o (p620.o (p616.o s613 rfl) rfl) rfl
  refine t1 p623.z (okNil s625) rfl fun a626 p627 s628 => ?_
  refine t1 p627.z (okFA (o' := x2.toNat * 17 + 1) fo66_1 s628 rfl) rfl fun a629 p630 s631 => ?_
  have s632 := p630.o (p627.o s624 rfl) rfl
  by_cases hi633 : 0 ≤ (w64 (x1.a + 2)) ∧ (w64 (x1.a + 2)) < 16
  case neg => rw [if_neg hi633] at h; cases h
  replace h := (if_pos hi633).symm.trans h
  refine t1 p630.z (okIA Try.underlying64 Try.sizeOf2 s631 s632 hi633) rfl fun a634 p635 s636 => ?_
  refine tN ?_
  have q637 := q595.t0 g609.t0 g609
  obtain ⟨b638, cs639, r640, e641, nb642, k643⟩ := q637.at_ (ix_set hy587)
  obtain rfl : bx2 = b638 := own1 eb2 nb642
  obtain rfl := r640
  have m647 := (m597.g g596 (D.bo (i := 0) (j := 5) rfl rfl rfl)).g0 g609
  have m648 := (m598.g g596 (D.bo (i := 1) (j := 5) rfl rfl rfl)).g0 g609
  have m649 := (m599.g g596 (D.bo (i := 3) (j := 5) rfl rfl rfl)).g0 g609
  refine lS (oStoE (K := KTFrame) (e' := ({ y586 with r := (y586.r.set (w64 (x1.a + 2)) 0).set (w64 (x1.a + 2)) 1 })) (vs := [.int .i64 1]) (j := 1 + (w64 (x1.a + 2)).toNat) p635.z s636 cst q637 (ix_set hy587) eb2 e641 (fun _ h => (.tail _ (.tail _ (.tail _ (List.mem_append_right _ (.tail _ (List.mem_append_right _ (List.mem_append_left _ h)))))))) (Nat.add_assoc _ _ _).symm Try.sizeOf2 rfl one1 rfl (ble (by have := hi633; show 1 + _ + 1 ≤ 17; omega)) (TFrame.C_r_set _ hi633 _) rfl fun w644 q645 g646 => ?_)
  have cx650 := cx610.cs g646 (fun _ h => .inl (.tail _ (.tail _ (List.mem_append_right _ (.tail _ (List.mem_append_right _ (List.mem_append_left _ h)))))))
  refine rN (thenN ?_)
  refine wp_seq ?_
  refine reg ?_
  refine s1 p635.z (okAs cst) rfl fun a651 p652 s653 => ?_
  refine rN (thenN ?_)
  obtain rfl := Option.some.inj h
  have m654 := m647.g g646 (D.bo (i := 0) (j := 5) rfl rfl rfl)
  have q655 := q300.mono ((((t544.trans g556.t0).trans (g596.t (fun _ h => (.tail _ (.tail _ (.tail _ (List.mem_append_right _ (.tail _ (List.mem_append_right _ (List.mem_append_left _ h)))))))))).trans g609.t0).trans (g646.t (fun _ h => (.tail _ (.tail _ (.tail _ (List.mem_append_right _ (.tail _ (List.mem_append_right _ (List.mem_append_left _ h))))))))))
  have m656 := m648.g g646 (D.bo (i := 1) (j := 5) rfl rfl rfl)
  have q657 := (((q539.t0 g556.t0 g556).tr (g596.t (fun _ h => (.tail _ (.tail _ (.tail _ (List.mem_append_right _ (.tail _ (List.mem_append_right _ (List.mem_append_left _ h))))))))) g596 (D.dj (i := 2) (j := 5) rfl rfl rfl)).t0 g609.t0 g609).tr (g646.t (fun _ h => (.tail _ (.tail _ (.tail _ (List.mem_append_right _ (.tail _ (List.mem_append_right _ (List.mem_append_left _ h))))))))) g646 (D.dj (i := 2) (j := 5) rfl rfl rfl)
  have m658 := m649.g g646 (D.bo (i := 3) (j := 5) rfl rfl rfl)
  have q659 := (((q540.t0 g556.t0 g556).tr (g596.t (fun _ h => (.tail _ (.tail _ (.tail _ (List.mem_append_right _ (.tail _ (List.mem_append_right _ (List.mem_append_left _ h))))))))) g596 (D.dj (i := 4) (j := 5) rfl rfl rfl)).t0 g609.t0 g609).tr (g646.t (fun _ h => (.tail _ (.tail _ (.tail _ (List.mem_append_right _ (.tail _ (List.mem_append_right _ (List.mem_append_left _ h))))))))) g646 (D.dj (i := 4) (j := 5) rfl rfl rfl)
  have q660 := (((q542.t0 g556.t0 g556).tr (g596.t (fun _ h => (.tail _ (.tail _ (.tail _ (List.mem_append_right _ (.tail _ (List.mem_append_right _ (List.mem_append_left _ h))))))))) g596 (djs (D.dj (i := 5) (j := 6) rfl rfl rfl))).t0 g609.t0 g609).tr (g646.t (fun _ h => (.tail _ (.tail _ (.tail _ (List.mem_append_right _ (.tail _ (List.mem_append_right _ (List.mem_append_left _ h))))))))) g646 (djs (D.dj (i := 5) (j := 6) rfl rfl rfl))
  exact wp_ret (ret1 p652.z Try.results33 (rvT s653) ⟨_, rfl, rfl, m654, (q655.mono ((Tr.refl _ _).sub (fun i h => (.tail _ h)))), m656, (q657.sub (fun i h => (.tail _ h))), m658, (q659.sub (fun i h => (.tail _ h))), (q645.sub (fun i h => (.tail _ h))), (q660.sub (fun i h => (.tail _ h))), (sepC (show ∀ x ∈ [ob0], x ∉ (ob0_1 :: (ownB hp0_1_0 ++ (ob0_2 :: (ownB hp0_2_0 ++ (ownB hp0_3 ++ (ownB hp0_4 ++ L)))))) from (in1 (nc (D.bb (i := 0) (j := 1) rfl rfl rfl) (na (D.bo (i := 0) (j := 2) rfl rfl rfl) (nc (D.bb (i := 0) (j := 3) rfl rfl rfl) (na (D.bo (i := 0) (j := 4) rfl rfl rfl) (na (D.bo (i := 0) (j := 5) rfl rfl rfl) (na (D.bo (i := 0) (j := 6) rfl rfl rfl) (D.bl (i := 0) rfl))))))))) (sepC (show ∀ x ∈ [ob0_1], x ∉ (ownB hp0_1_0 ++ (ob0_2 :: (ownB hp0_2_0 ++ (ownB hp0_3 ++ (ownB hp0_4 ++ L))))) from (in1 (na (D.bo (i := 1) (j := 2) rfl rfl rfl) (nc (D.bb (i := 1) (j := 3) rfl rfl rfl) (na (D.bo (i := 1) (j := 4) rfl rfl rfl) (na (D.bo (i := 1) (j := 5) rfl rfl rfl) (na (D.bo (i := 1) (j := 6) rfl rfl rfl) (D.bl (i := 1) rfl)))))))) (sepC (show ∀ x ∈ ownB hp0_1_0, x ∉ (ob0_2 :: (ownB hp0_2_0 ++ (ownB hp0_3 ++ (ownB hp0_4 ++ L)))) from (fun x hx => (nc (nbo (D.ob (i := 2) (j := 3) rfl rfl rfl) hx) (na ((D.dj (i := 2) (j := 4) rfl rfl rfl) x hx) (na ((D.dj (i := 2) (j := 5) rfl rfl rfl) x hx) (na ((D.dj (i := 2) (j := 6) rfl rfl rfl) x hx) ((D.dl (i := 2) rfl) x hx))))))) (sepC (show ∀ x ∈ [ob0_2], x ∉ (ownB hp0_2_0 ++ (ownB hp0_3 ++ (ownB hp0_4 ++ L))) from (in1 (na (D.bo (i := 3) (j := 4) rfl rfl rfl) (na (D.bo (i := 3) (j := 5) rfl rfl rfl) (na (D.bo (i := 3) (j := 6) rfl rfl rfl) (D.bl (i := 3) rfl)))))) (sepC (show ∀ x ∈ ownB hp0_2_0, x ∉ (ownB hp0_3 ++ (ownB hp0_4 ++ L)) from (fun x hx => (na ((D.dj (i := 4) (j := 5) rfl rfl rfl) x hx) (na ((D.dj (i := 4) (j := 6) rfl rfl rfl) x hx) ((D.dl (i := 4) rfl) x hx))))) (sepC (show ∀ x ∈ ownB hp0_3, x ∉ (ownB hp0_4 ++ L) from (fun x hx => (na ((D.dj (i := 5) (j := 6) rfl rfl rfl) x hx) ((D.dl (i := 5) rfl) x hx)))) (sepC (show ∀ x ∈ ownB hp0_4, x ∉ L from (fun x hx => ((D.dl (i := 6) rfl) x hx))) sepN))))))), (show ∀ b ∈ (ob0 :: (ob0_1 :: (ownB hp0_1_0 ++ (ob0_2 :: (ownB hp0_2_0 ++ (ownB hp0_3 ++ (ownB hp0_4 ++ L))))))), b < w644.heap.size from (fun i h => cx650.lt i (.tail _ h))), cx650.g⟩)
 replace h := (ifN hb608).symm.trans h
 refine wp_skip (thenN ?_)
 refine wp_seq ?_
 refine reg ?_
 refine s1 pg607.z (okAs cst) rfl fun a661 p662 s663 => ?_
 refine rN (thenN ?_)
 obtain rfl := Option.some.inj h
 have m664 := m597.g g596 (D.bo (i := 0) (j := 5) rfl rfl rfl)
 have q665 := q300.mono ((t544.trans g556.t0).trans (g596.t (fun _ h => (.tail _ (.tail _ (.tail _ (List.mem_append_right _ (.tail _ (List.mem_append_right _ (List.mem_append_left _ h))))))))))
 have m666 := m598.g g596 (D.bo (i := 1) (j := 5) rfl rfl rfl)
 have q667 := (q539.t0 g556.t0 g556).tr (g596.t (fun _ h => (.tail _ (.tail _ (.tail _ (List.mem_append_right _ (.tail _ (List.mem_append_right _ (List.mem_append_left _ h))))))))) g596 (D.dj (i := 2) (j := 5) rfl rfl rfl)
 have m668 := m599.g g596 (D.bo (i := 3) (j := 5) rfl rfl rfl)
 have q669 := (q540.t0 g556.t0 g556).tr (g596.t (fun _ h => (.tail _ (.tail _ (.tail _ (List.mem_append_right _ (.tail _ (List.mem_append_right _ (List.mem_append_left _ h))))))))) g596 (D.dj (i := 4) (j := 5) rfl rfl rfl)
 have q670 := (q542.t0 g556.t0 g556).tr (g596.t (fun _ h => (.tail _ (.tail _ (.tail _ (List.mem_append_right _ (.tail _ (List.mem_append_right _ (List.mem_append_left _ h))))))))) g596 (djs (D.dj (i := 5) (j := 6) rfl rfl rfl))
 exact wp_ret (ret1 p662.z Try.results33 (rvT s663) ⟨_, rfl, rfl, m664, (q665.mono ((Tr.refl _ _).sub (fun i h => (.tail _ h)))), m666, (q667.sub (fun i h => (.tail _ h))), m668, (q669.sub (fun i h => (.tail _ h))), (q595.sub (fun i h => (.tail _ h))), (q670.sub (fun i h => (.tail _ h))), (sepC (show ∀ x ∈ [ob0], x ∉ (ob0_1 :: (ownB hp0_1_0 ++ (ob0_2 :: (ownB hp0_2_0 ++ (ownB hp0_3 ++ (ownB hp0_4 ++ L)))))) from (in1 (nc (D.bb (i := 0) (j := 1) rfl rfl rfl) (na (D.bo (i := 0) (j := 2) rfl rfl rfl) (nc (D.bb (i := 0) (j := 3) rfl rfl rfl) (na (D.bo (i := 0) (j := 4) rfl rfl rfl) (na (D.bo (i := 0) (j := 5) rfl rfl rfl) (na (D.bo (i := 0) (j := 6) rfl rfl rfl) (D.bl (i := 0) rfl))))))))) (sepC (show ∀ x ∈ [ob0_1], x ∉ (ownB hp0_1_0 ++ (ob0_2 :: (ownB hp0_2_0 ++ (ownB hp0_3 ++ (ownB hp0_4 ++ L))))) from (in1 (na (D.bo (i := 1) (j := 2) rfl rfl rfl) (nc (D.bb (i := 1) (j := 3) rfl rfl rfl) (na (D.bo (i := 1) (j := 4) rfl rfl rfl) (na (D.bo (i := 1) (j := 5) rfl rfl rfl) (na (D.bo (i := 1) (j := 6) rfl rfl rfl) (D.bl (i := 1) rfl)))))))) (sepC (show ∀ x ∈ ownB hp0_1_0, x ∉ (ob0_2 :: (ownB hp0_2_0 ++ (ownB hp0_3 ++ (ownB hp0_4 ++ L)))) from (fun x hx => (nc (nbo (D.ob (i := 2) (j := 3) rfl rfl rfl) hx) (na ((D.dj (i := 2) (j := 4) rfl rfl rfl) x hx) (na ((D.dj (i := 2) (j := 5) rfl rfl rfl) x hx) (na ((D.dj (i := 2) (j := 6) rfl rfl rfl) x hx) ((D.dl (i := 2) rfl) x hx))))))) (sepC (show ∀ x ∈ [ob0_2], x ∉ (ownB hp0_2_0 ++ (ownB hp0_3 ++ (ownB hp0_4 ++ L))) from (in1 (na (D.bo (i := 3) (j := 4) rfl rfl rfl) (na (D.bo (i := 3) (j := 5) rfl rfl rfl) (na (D.bo (i := 3) (j := 6) rfl rfl rfl) (D.bl (i := 3) rfl)))))) (sepC (show ∀ x ∈ ownB hp0_2_0, x ∉ (ownB hp0_3 ++ (ownB hp0_4 ++ L)) from (fun x hx => (na ((D.dj (i := 4) (j := 5) rfl rfl rfl) x hx) (na ((D.dj (i := 4) (j := 6) rfl rfl rfl) x hx) ((D.dl (i := 4) rfl) x hx))))) (sepC (show ∀ x ∈ ownB hp0_3, x ∉ (ownB hp0_4 ++ L) from (fun x hx => (na ((D.dj (i := 5) (j := 6) rfl rfl rfl) x hx) ((D.dl (i := 5) rfl) x hx)))) (sepC (show ∀ x ∈ ownB hp0_4, x ∉ L from (fun x hx => ((D.dl (i := 6) rfl) x hx))) sepN))))))), (show ∀ b ∈ (ob0 :: (ob0_1 :: (ownB hp0_1_0 ++ (ob0_2 :: (ownB hp0_2_0 ++ (ownB hp0_3 ++ (ownB hp0_4 ++ L))))))), b < w594.heap.size from (fun i h => cx600.lt i (.tail _ h))), cx600.g⟩)

set_option maxHeartbeats 4000000 in
set_option maxRecDepth 100000 in
theorem c34 (L : List Nat) (w : World) (x0 : TIns) (x1 : TFrame) (bx1 of1 : Nat) (hL : ∀ b ∈ L, b < w.heap.size) (D : Sep [] L) (e1 : Cl w bx1 of1 (TFrame.C x1)) (r : Bool) (h : micro_jumps x0 x1 = some r) : Calls Try.prog 34 #[.agg (TIns.C x0).toArray, ptr bx1 of1] w (fun e w' => ∃ v, e = .returned v ∧ v = .bool r ∧ G ([] : List Nat) w w') := by
 refine enterF Try.func34 rfl rfl fun a0 z0 A => ?_
 have s0_0 := A 0 (.agg (TIns.C x0).toArray) rfl
 have s0_1 := A 1 (ptr bx1 of1) rfl
 clear A
 have hLb : ∀ b ∈ L, b < w.heap.size := fun b h => hL b h
 have c0 : Cx ([] : List Nat) w L w := ⟨G.refl _ _, hL⟩
 unfold micro_jumps at h
 refine wp_seq ?_
 refine reg ?_
 refine lS (oBox (l := TIns.C x0) z0 s0_0 rfl rfl fun a1 w2 b3 p4 sp4 m5 g6 e7 => ?_)
 have f9 := c0.nw e7
 have cx8 := c0.al g6 m5
 refine s1 p4.z (okAs cst) rfl fun a10 p11 s12 => ?_
 refine rN (thenN ?_)
 refine wp_seq ?_
 refine regS mixed (by kernel_rfl) ?_
 have g13 := G.drew w2
 have cx14 := cx8.ca g13
 have s15 := p11.o (p4.o s0_1 rfl) rfl
 refine t1 p11.z (okMv s15) rfl fun a16 p17 s18 => ?_
 have s19 := p17.o (p11.o sp4 rfl) rfl
 refine t1 p17.z (okFA (o' := 1) fo40_1 s19 rfl) rfl fun a20 p21 s22 => ?_
 have m23 := m5.g0 g13
 refine t1 p21.z (okLd (j := 1) na3 s22 (m23.cl) rfl rfl) rfl fun a24 p25 s26 => ?_
 have s27 := p25.o (p21.o s18 rfl) rfl
 refine t1 p25.z (okNil s27) rfl fun a28 p29 s30 => ?_
 refine t1 p29.z (okFA (o' := of1 + 1) fo66_1 s30 rfl) rfl fun a31 p32 s33 => ?_
 have s34 := p32.o (p29.o s26 rfl) rfl
 by_cases hi35 : 0 ≤ x0.a ∧ x0.a < 16
 case neg => rw [if_neg hi35] at h; cases h
 replace h := (if_pos hi35).symm.trans h
 refine t1 p32.z (okIA Try.underlying64 Try.sizeOf2 s33 s34 hi35) rfl fun a36 p37 s38 => ?_
 have e39 := (e1.g0 g6).g0 g13
 refine t1 p37.z (okLd (j := 1 + x0.a.toNat) na2 s38 e39 (Nat.add_assoc _ _ _).symm (TFrame.C_r_get _ hi35)) rfl fun a40 p41 s42 => ?_
 have s43 := p41.o (p37.o (p32.o (p29.o (p25.o (p21.o (p17.o s15 rfl) rfl) rfl) rfl) rfl) rfl) rfl
 refine t1 p41.z (okMv s43) rfl fun a44 p45 s46 => ?_
 have s47 := p45.o (p41.o (p37.o (p32.o (p29.o (p25.o (p21.o s19 rfl) rfl) rfl) rfl) rfl) rfl) rfl
 refine t1 p45.z (okFA (o' := 2) fo40_2 s47 rfl) rfl fun a48 p49 s50 => ?_
 refine t1 p49.z (okLd (j := 2) na3 s50 (m23.cl) rfl rfl) rfl fun a51 p52 s53 => ?_
 have s54 := p52.o (p49.o s46 rfl) rfl
 refine t1 p52.z (okNil s54) rfl fun a55 p56 s57 => ?_
 refine t1 p56.z (okFA (o' := of1 + 1) fo66_1 s57 rfl) rfl fun a58 p59 s60 => ?_
 have s61 := p59.o (p56.o s53 rfl) rfl
 by_cases hi62 : 0 ≤ x0.b ∧ x0.b < 16
 case neg => rw [if_neg hi62] at h; cases h
 replace h := (if_pos hi62).symm.trans h
 refine t1 p59.z (okIA Try.underlying64 Try.sizeOf2 s60 s61 hi62) rfl fun a63 p64 s65 => ?_
 refine t1 p64.z (okLd (j := 1 + x0.b.toNat) na2 s65 e39 (Nat.add_assoc _ _ _).symm (TFrame.C_r_get _ hi62)) rfl fun a66 p67 s68 => ?_
 have s69 := p67.o (p64.o (p59.o (p56.o (p52.o (p49.o (p45.o s42 rfl) rfl) rfl) rfl) rfl) rfl) rfl
 refine t1 p67.z (okAs s69) rfl fun a70 p71 s72 => ?_
 have s73 := p71.o s68 rfl
 refine t1 p71.z (okAs s73) rfl fun a74 p75 s76 => ?_
 refine tN (thenN ?_)
 refine wp_seq ?_
 refine wp_seq ?_
 refine reg ?_
 have s77 := p75.o (p71.o (p67.o (p64.o (p59.o (p56.o (p52.o (p49.o s47 rfl) rfl) rfl) rfl) rfl) rfl) rfl) rfl
 refine s1 p75.z (okFA (o' := 0) fo40_0 s77 rfl) rfl fun a78 p79 s80 => ?_
 refine s1 p79.z (okLd (j := 0) na3 s80 (m23.cl) rfl rfl) rfl fun a81 p82 s83 => ?_
 refine rN (thenN ?_)
 refine wp_block ?_
 refine wp_seq ?_
 refine reg ?_
 refine s1 p82.z (okEq s83 cst) rfl fun a84 p85 s86 => ?_
 refine s1 p85.z (okAs s86) rfl fun a87 p88 s89 => ?_
 refine rN (thenN ?_)
 have s90 := p88.o (p85.o (p82.o (p79.o (p75.o (p71.o (p67.o (p64.o (p59.o (p56.o (p52.o (p49.o (p45.o (p41.o (p37.o (p32.o (p29.o (p25.o (p21.o (p17.o s12 rfl) rfl) rfl) rfl) rfl) rfl) rfl) rfl) rfl) rfl) rfl) rfl) rfl) rfl) rfl) rfl) rfl) rfl) rfl) rfl
 have s91 := p88.o (p85.o (p82.o (p79.o (p75.o s72 rfl) rfl) rfl) rfl) rfl
 have s92 := p88.o (p85.o (p82.o (p79.o s76 rfl) rfl) rfl) rfl
 have s93 := p88.o (p85.o s83 rfl) rfl
 have pg94 : Pg _ [2, 4, 5, 6, 7, 8, 9, 10, 11, 12, 13, 14, 15, 16, 17, 18, 19, 20, 21, 22, 23, 24] _ _ := (((((((((((((((((((((((Pg.refl z0).st p4 rfl).st p11 rfl).st p17 rfl).st p21 rfl).st p25 rfl).st p29 rfl).st p32 rfl).st p37 rfl).st p41 rfl).st p45 rfl).st p49 rfl).st p52 rfl).st p56 rfl).st p59 rfl).st p64 rfl).st p67 rfl).st p71 rfl).st p75 rfl).st p79 rfl).st p82 rfl).st p85 rfl).st p88 rfl)
 refine cnd s89 (fun hb95 => ?_) (fun hb95 => ?_)
 ·replace h := (ifP hb95).symm.trans h
  refine wp_seq ?_
  refine reg ?_
  refine s1 pg94.z (okAs cst) rfl fun a96 p97 s98 => ?_
  refine rN (thenN ?_)
  obtain rfl := Option.some.inj h
  exact wp_ret (blkR (thenR (ret1 p97.z Try.results34 (rvT s98) ⟨_, rfl, rfl, cx14.g⟩)))
 replace h := (ifN hb95).symm.trans h
 refine wp_seq ?_
 refine reg ?_
 refine s1 pg94.z (okEq s93 cst) rfl fun a99 p100 s101 => ?_
 refine s1 p100.z (okAs s101) rfl fun a102 p103 s104 => ?_
 refine rN (thenN ?_)
 refine cnd s104 (fun hb105 => ?_) (fun hb105 => ?_)
 ·replace h := (ifP hb105).symm.trans h
  refine wp_seq ?_
  refine reg ?_
  have s106 := p103.o (p100.o s91 rfl) rfl
  refine s1 p103.z (okMv s106) rfl fun a107 p108 s109 => ?_
  have s110 := p108.o (p103.o (p100.o s92 rfl) rfl) rfl
  refine s1 p108.z (okMv s110) rfl fun a111 p112 s113 => ?_
  have s114 := p112.o s109 rfl
  refine s1 p112.z (okEq s114 s113) rfl fun a115 p116 s117 => ?_
  refine s1 p116.z (okAs s117) rfl fun a118 p119 s120 => ?_
  refine rN (thenN ?_)
  obtain rfl := Option.some.inj h
  exact wp_ret (blkR (thenR (ret1 p119.z Try.results34 (rvT s120) ⟨_, rfl, rfl, cx14.g⟩)))
 replace h := (ifN hb105).symm.trans h
 refine wp_seq ?_
 refine reg ?_
 have s121 := p103.o (p100.o s93 rfl) rfl
 refine s1 p103.z (okEq s121 cst) rfl fun a122 p123 s124 => ?_
 refine s1 p123.z (okAs s124) rfl fun a125 p126 s127 => ?_
 refine rN (thenN ?_)
 have pg128 : Pg _ [25, 26, 30, 31] _ _ := (((((Pg.refl pg94.z).st p100 rfl).st p103 rfl).st p123 rfl).st p126 rfl)
 refine cnd s127 (fun hb129 => ?_) (fun hb129 => ?_)
 ·replace h := (ifP hb129).symm.trans h
  refine wp_seq ?_
  refine reg ?_
  have s130 := pg128.o s91 rfl
  refine s1 pg128.z (okMv s130) rfl fun a131 p132 s133 => ?_
  have s134 := p132.o (pg128.o s92 rfl) rfl
  refine s1 p132.z (okMv s134) rfl fun a135 p136 s137 => ?_
  have s138 := p136.o s133 rfl
  refine s1 p136.z (okNe s138 s137) rfl fun a139 p140 s141 => ?_
  refine s1 p140.z (okAs s141) rfl fun a142 p143 s144 => ?_
  refine rN (thenN ?_)
  obtain rfl := Option.some.inj h
  exact wp_ret (blkR (thenR (ret1 p143.z Try.results34 (rvT s144) ⟨_, rfl, rfl, cx14.g⟩)))
 replace h := (ifN hb129).symm.trans h
 refine wp_skip (blkN (thenN ?_))
 refine wp_seq ?_
 refine reg ?_
 have s145 := pg128.o s91 rfl
 refine s1 pg128.z (okMv s145) rfl fun a146 p147 s148 => ?_
 have s149 := p147.o (pg128.o s92 rfl) rfl
 refine s1 p147.z (okMv s149) rfl fun a150 p151 s152 => ?_
 have s153 := p151.o s148 rfl
 refine s1 p151.z (okLt s153 s152) rfl fun a154 p155 s156 => ?_
 refine s1 p155.z (okAs s156) rfl fun a157 p158 s159 => ?_
 refine rN (thenN ?_)
 obtain rfl := Option.some.inj h
 exact wp_ret (ret1 p158.z Try.results34 (rvT s159) ⟨_, rfl, rfl, cx14.g⟩)
end Go.Proofs.Ytjdalhedpgiimaa
