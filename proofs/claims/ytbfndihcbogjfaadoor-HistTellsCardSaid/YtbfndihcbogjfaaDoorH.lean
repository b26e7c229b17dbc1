import Derived.Test.YtbfndihcbogjfaaDoorS
import Derived.KernelRfl
import Derived.Test.YtbfndihcbogjfaaDoorG17
set_option linter.unusedVariables false
namespace Go.Proofs.YtbfndihcbogjfaaDoor
open Go Go.RowKit Go.Proofs.YtbfndihcbogjfaaDoor.Gx
set_option maxHeartbeats 1000000 in
set_option maxRecDepth 100000 in
theorem cc_used (b : Nat) (w : World) (h0 : w.cell? ⟨b, 0, none⟩ = some (.pointer (some ⟨b, 0, none⟩))) :
    Calls Tryd.prog 39 #[.pointer (some ⟨b, 0, none⟩)] w fun e w' => e = .returned (.tuple #[]) ∧ w' = w := by
  obtain ⟨j, hj, _⟩ := Option.map_eq_some_iff.1 (show (Tryd.prog.info? 68).map (·.size) = some 2 by kernel_rfl)
  have mixed : Tryd.prog.follows .mixedOrders = true := by kernel_rfl
  have t72 := Tryd.underlying68; have u72 := run_underlying t72
  have t70 := Tryd.underlying65; have a70 := Tryd.isAgg65; have u70 := run_underlying t70
  have t4 := Tryd.underlying4; have u4 := run_underlying t4
  have t164 := Tryd.underlying103; have u164 := run_underlying t164
  have z70 := Tryd.sizeOf65
  go_enter Tryd.func39, Tryd.ntmps39
  go_wp2
  rw [Lib.run_neq_ptr_same w _ t70 hj]
  go_wp2
  go_end0
  exact ⟨rfl, rfl⟩
set_option maxHeartbeats 1000000 in
set_option maxRecDepth 100000 in
theorem cc_fresh (b : Nat) (w : World) (h0 : w.cell? ⟨b, 0, none⟩ = some (.pointer none)) (hsh : w.shape? b = some (68, 2)) (hfz : w.frozen? ⟨b, 0, none⟩ = false) :
    Calls Tryd.prog 39 #[.pointer (some ⟨b, 0, none⟩)] w fun e w' => e = .returned (.tuple #[]) ∧ w' = w.setCell ⟨b, 0, none⟩ (.pointer (some ⟨b, 0, none⟩)) := by
  obtain ⟨j, hj, hjs⟩ := Option.map_eq_some_iff.1 (show (Tryd.prog.info? 68).map (·.size) = some 2 by kernel_rfl)
  have mixed : Tryd.prog.follows .mixedOrders = true := by kernel_rfl
  have t72 := Tryd.underlying68; have u72 := run_underlying t72
  have t70 := Tryd.underlying65; have a70 := Tryd.isAgg65; have u70 := run_underlying t70
  have t4 := Tryd.underlying4; have u4 := run_underlying t4
  have t164 := Tryd.underlying103; have u164 := run_underlying t164
  have z70 := Tryd.sizeOf65
  go_enter Tryd.func39, Tryd.ntmps39
  go_wp2
  rw [Lib.run_to_unsafe w ⟨b, 0, none⟩ t70 t164 hj (by rw [hjs]; decide) hsh (Nat.zero_lt_succ 1)]
  simp only [Result.andThen]
  rw [Oper.upon_value]
  go_wp2
  rw [run_callFunc_extern Tryd.func52 (by kernel_rfl) (by kernel_rfl) (by kernel_rfl) (e := Extern.AbiNoEscape.same) (by kernel_rfl)]
  rw [Lib.run_noEscape]
  simp only [Result.andThen]
  rw [Oper.upon_value]
  go_wp2
  rw [Lib.run_from_unsafe w ⟨b, 0, none⟩ t164 t70 hj hsh (by kernel_rfl)]
  simp only [Result.andThen]
  rw [Oper.upon_value]
  go_wp2
  go_end0
  exact ⟨rfl, rfl⟩
end Go.Proofs.YtbfndihcbogjfaaDoor
namespace Go.Proofs.YtbfndihcbogjfaaDoor
open Go Go.RowKit Go.Proofs.YtbfndihcbogjfaaDoor.Gx
structure Tstrings_Builder where
  buf : List Int
deriving Inhabited
theorem c39 (b : Nat) (h : Value) (w : World) (m : Bld w b h 68) : Calls Tryd.prog 39 #[ptr b 0] w (fun e w' => ∃ v, e = .returned v ∧ v = .tuple #[] ∧ Bk w' b [ptr b 0, h] 68 ∧ G [b] w w') := by
  obtain ⟨A, hA, m⟩ := m
  have c0 : w.cell? ⟨b, 0, none⟩ = some A := m.cl 0 A rfl
  rcases hA with rfl | rfl
  · have hsh : w.shape? b = some (68, 2) := by simp [World.shape?, show w.heap[b]? = _ from m]
    have hfz : w.frozen? ⟨b, 0, none⟩ = false := by simp [World.frozen?, show w.heap[b]? = _ from m]
    refine (cc_fresh b w c0 hsh hfz).mono ?_
    rintro e w' ⟨rfl, rfl⟩
    obtain ⟨_, h1, h2⟩ := sto1 (P := Tryd.prog) (v := ptr b 0) m (o := 0) (by simp) rfl
    exact ⟨_, rfl, rfl, h1, h2⟩
  · refine (cc_used b w c0).mono ?_
    rintro e w' ⟨rfl, rfl⟩
    exact ⟨_, rfl, rfl, m, G.refl _ _⟩
theorem fo68_1 : FO Tryd.prog 68 1 1 := ⟨_, _, _, Tryd.underlying68, rfl, rfl, Tryd.sizeOf66, by decide⟩
theorem na66 : NA Tryd.prog 66 := Tryd.isAgg66
def strings_Builder_WriteString (x0 : Tstrings_Builder) (x1 : List UInt8) : Option (Int × Er × Tstrings_Builder) := (appb x0.buf x1).bind fun z => some ((x1.length : Int), .nil, ⟨z⟩)
set_option maxHeartbeats 4000000 in
set_option maxRecDepth 100000 in
theorem c29 (L : List Nat) (w : World) (x0 : Tstrings_Builder) (ob0 : Nat) (hp0_0 : Value) (x1 : List UInt8) (hL : ∀ b ∈ (ob0 :: (ownB hp0_0 ++ L)), b < w.heap.size) (D : Sep [[ob0], ownB hp0_0] L) (mob0 : Bld w ob0 hp0_0 68) (qhp0_0 : OwnS (KInt .u8) 5 (ob0 :: (ownB hp0_0 ++ L)) w hp0_0 (x0.buf)) (r : Int × Er × Tstrings_Builder) (h : strings_Builder_WriteString x0 x1 = some r) :
    Calls Tryd.prog 29 #[ptr ob0 0, .string ⟨x1.toArray⟩] w (fun e w' => ∃ v, e = .returned v ∧ ∃ u1_0 nhp0_0, v = .tuple #[.int .i64 r.1, u1_0] ∧ ErG 59 84 (ob0 :: (ownB nhp0_0 ++ L)) w' u1_0 r.2.1 ∧ Bld w' ob0 nhp0_0 68 ∧ OwnS (KInt .u8) 5 (ob0 :: (ownB nhp0_0 ++ L)) w' nhp0_0 r.2.2.buf ∧ Gx.Sep [[ob0], ownB nhp0_0] L ∧ (∀ x ∈ ownB nhp0_0, x ∈ (ob0 :: (ownB hp0_0 ++ [])) ∨ w.heap.size ≤ x) ∧ (∀ b ∈ (ob0 :: (ownB nhp0_0 ++ L)), b < w'.heap.size) ∧ G (ob0 :: (ownB hp0_0 ++ [])) w w') := by
  have nbo : ob0 ∉ ownB hp0_0 := D.bo (i := 0) (j := 1) rfl rfl rfl
  refine enterF Tryd.func29 rfl rfl fun a0 z0 A => ?_
  have s0 := A 0 (ptr ob0 0) rfl
  have t0 := A 1 (.string ⟨x1.toArray⟩) rfl
  unfold strings_Builder_WriteString at h
  obtain ⟨z, hz, h⟩ := Option.bind_eq_some_iff.1 h
  obtain rfl := Option.some.inj h
  have c0 : Cx (ob0 :: (ownB hp0_0 ++ [])) w (ob0 :: (ownB hp0_0 ++ L)) w := ⟨G.refl _ _, hL⟩
  refine wp_seq ?_
  refine reg ?_
  refine s1 z0 (okAs cst) rfl fun a1 p1 sp1 => ?_
  refine s1 p1.z (okAs cst) rfl fun a2 p2 sp2 => ?_
  refine rN (thenN ?_)
  refine wp_seq ?_
  refine reg ?_
  have s2 := p2.o (p1.o s0 rfl) rfl
  have t2 := p2.o (p1.o t0 rfl) rfl
  refine s1 p2.z (okMv s2) rfl fun a3 p3 sp3 => ?_
  refine lS (oCall p3.z Tryd.call39 (ag1 sp3) (c39 ob0 hp0_0 w mob0) rfl fun v4 a4 w4 hp4 p4 sp4 => ?_)
  obtain ⟨rfl, m4, g4⟩ := hp4
  have q4 := qhp0_0.t1 (g4.t1 (.head _)) g4 nbo
  have c4 := c0.sS g4 (.head _)
  have s4 := p4.o (p3.o s2 rfl) rfl
  have t4 := p4.o (p3.o t2 rfl) rfl
  refine rN (thenN ?_)
  refine wp_seq ?_
  refine reg ?_
  refine s1 p4.z (okMv s4) rfl fun a5 p5 sp5 => ?_
  have s5 := p5.o s4 rfl
  have t5 := p5.o t4 rfl
  refine s1 p5.z (okMv s5) rfl fun a6 p6 sp6 => ?_
  have u6 := p6.o sp5 rfl
  have t6 := p6.o t5 rfl
  refine s1 p6.z (okNil sp6) rfl fun a7 p7 sp7 => ?_
  have u7 := p7.o u6 rfl
  have t7 := p7.o t6 rfl
  refine s1 p7.z (okFA (o' := 1) fo68_1 sp7 rfl) rfl fun a8 p8 sp8 => ?_
  have u8 := p8.o u7 rfl
  have t8 := p8.o t7 rfl
  refine s1 p8.z (okLd (j := 1) na66 sp8 m4.cl rfl rfl) rfl fun a9 p9 sp9 => ?_
  have u9 := p9.o u8 rfl
  have t9 := p9.o t8 rfl
  refine s1 p9.z (okMv t9) rfl fun a10 p10 sp10 => ?_
  have u10 := p10.o u9 rfl
  have v10 := p10.o sp9 rfl
  have t10 := p10.o t9 rfl
  refine lS (oAppS (L := (ob0 :: (ownB hp0_0 ++ L))) Tryd.underlying66 Tryd.underlying9 ⟨Tryd.t5, by kernel_rfl, rfl, rfl, rfl⟩ p10.z v10 sp10 q4 hz (fun _ h => .tail _ (List.mem_append_left _ h)) rfl fun a11 v w5 p11 sp11 q5 g5 f5 => ?_)
  have u11 := p11.o u10 rfl
  have t11 := p11.o t10 rfl
  have m5 := m4.g g5 nbo
  have nb5 : ob0 ∉ ownB v := m4.no nbo f5
  have c5 := c4.ap g5 (fun _ h => .inl (.tail _ (List.mem_append_left _ h))) q5
  refine s1 p11.z (okNil u11) rfl fun a12 p12 sp12 => ?_
  have v12 := p12.o sp11 rfl
  have t12 := p12.o t11 rfl
  refine s1 p12.z (okFA (o' := 1) fo68_1 sp12 rfl) rfl fun a13 p13 sp13 => ?_
  have v13 := p13.o v12 rfl
  have t13 := p13.o t12 rfl
  refine lS (oSto (cs := [v]) (l' := [ptr ob0 0, v]) p13.z sp13 v13 m5 Tryd.sizeOf66 q5.cells (oneS q5.one) rfl rfl fun w6 m6 g6 => ?_)
  have q6 := q5.t1 (g6.t1 (List.mem_append_right _ (.head _))) g6 nb5
  have c6 := c5.sS g6 (.head _)
  refine rN (thenN ?_)
  refine wp_seq ?_
  refine reg ?_
  refine s1 p13.z (okMv t13) rfl fun a14 p14 sp14 => ?_
  refine s1 p14.z (okLenS Tryd.underlying9 sp14) rfl fun a15 p15 sp15 => ?_
  refine s1 p15.z (okAs sp15) rfl fun a16 p16 sp16 => ?_
  refine s1 p16.z (okAs cst) rfl fun a17 p17 sp17 => ?_
  refine rN (thenN ?_)
  have r16 := p17.o sp16 rfl
  have hsz : (⟨x1.toArray⟩ : ByteArray).size = x1.length := by simp [ByteArray.size]
  rw [hsz] at r16
  have fr : ∀ x ∈ ownB v, x ∈ (ob0 :: (ownB hp0_0 ++ [])) ∨ w.heap.size ≤ x := fun x hx => by
    rcases f5 x hx with h | h
    · exact .inl (.tail _ (List.mem_append_left _ h))
    · exact .inr (Nat.le_trans c4.g.sz h)
  have nbL : ∀ x ∈ ownB v, x ∉ L := nbA (fun b h => hL b (.tail _ (List.mem_append_right _ h))) c4.g.sz (D.dl (i := 1) rfl) f5
  have sub : ∀ i ∈ (ob0 :: (ownB v ++ L)), i ∈ ownB v ++ (ob0 :: (ownB hp0_0 ++ L)) := fun i h => (List.mem_cons.1 h).elim (fun e => e ▸ List.mem_append_right _ (.head _)) (fun h => (List.mem_append.1 h).elim (fun h => List.mem_append_left _ h) (fun h => List.mem_append_right _ (.tail _ (List.mem_append_right _ h))))
  exact wp_ret (ret2 p17.z Tryd.results29 (rvT r16) (rvT sp17) ⟨_, rfl, .nilIface, v, rfl, ErG.nil, ⟨_, .inr rfl, m6⟩, q6.sub sub,
    sepC (show ∀ x ∈ [ob0], x ∉ ownB v ++ L from in1 (na nb5 (D.bl (i := 0) rfl))) (sepC nbL sepN), fr, (show ∀ b ∈ (ob0 :: (ownB v ++ L)), b < w6.heap.size from fun b h => c6.lt b (sub b h)), c6.g⟩)
def strings_Builder_String (x : Tstrings_Builder) : Option (List UInt8) := if nums (bstr x.buf) = x.buf then some (bstr x.buf) else none
theorem c32 {w w0 : World} {b : Nat} {h : Value} {L : List Nat} {x : Tstrings_Builder} (m : Bld w b h 68) (q : OwnS (KInt .u8) 5 L w h x.buf) (hb : w0.heap.size ≤ b) (hv : ∀ i ∈ ownB h, w0.heap.size ≤ i) (hne : b ∉ ownB h) {z : List UInt8} (hz : strings_Builder_String x = some z) :
    Calls Tryd.prog 32 #[ptr b 0] w (fun e w' => ∃ v, e = .returned v ∧ v = .string ⟨z.toArray⟩ ∧ Below w0.heap.size w w') := by
  unfold strings_Builder_String at hz
  by_cases hn : nums (bstr x.buf) = x.buf
  · rw [if_pos hn] at hz
    obtain rfl := Option.some.inj hz
    refine (Tryd.Builder_String_any w0.heap.size b _ w (m.is q hb hv hne hn.symm) (Nat.le_trans hb (Nat.le_of_lt m.lt))).mono ?_
    rintro e w' ⟨rfl, h⟩
    exact ⟨_, rfl, rfl, h⟩
  · rw [if_neg hn] at hz
    cases hz
abbrev TabA (L : List Nat) (w : World) : Prop := Tab Tryd.prog L w "internal/strconv.uint64pow10" (Lib.pow10Tab.map (Value.int .u64))
end Go.Proofs.YtbfndihcbogjfaaDoor
