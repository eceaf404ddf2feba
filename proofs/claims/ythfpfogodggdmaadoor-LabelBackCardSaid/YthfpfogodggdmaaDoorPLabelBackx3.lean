-- PRINTED BY print.sh 35421559b90ae4d0a3588c463048766b98c2df88dd9212a6774a882060cdf62d: not written by this session
import Derived.Test.YthfpfogodggdmaaDoorPLabelBackx0
import Derived.Test.YthfpfogodggdmaaDoorPLabelBackx1
import Derived.Test.YthfpfogodggdmaaDoorPLabelBackx2
namespace Go.Proofs.YthfpfogodggdmaaDoor.PLabelBack
open Go.RowKit Go.Proofs.YthfpfogodggdmaaDoorW.PrintWords Go.Proofs.YthfpfogodggdmaaDoorW.PrintLast Go.Proofs.YthfpfogodggdmaaDoorW.PrintMore Go.Proofs.YthfpfogodggdmaaDoorW.Box
attribute [local go_sem] max2_int min2_int max_two min_two max_three min_three max_four min_four   -- for this text's walks alone
set_option linter.unusedVariables false
set_option linter.unusedSimpArgs false

attribute [local go_sem high] eqA25
/-! ### pyxlaw8_LabelBack: function 5 -/
def pyxlaw8_LabelBack.l0 : Nat → Int → List Int → Int → Int → Int → Int → Int → Int → Int → Int → Option (Bool)
  | 0, _, _, _, _, _, _, _, _, _, _ => none
  | k + 1, x7, x27, x28, x29, x125000, x125001, x130000, x130001, x131000, x131001 => if x29 < x28 then (if 0 ≤ x29 then (if x29 < (x27.length : Int) then ((label_Of.f (rd x27 x29) 0).bind fun bt136 => ((label_Join.f x131000 x131001 bt136.1 bt136.2).bind fun bt138 => ((label_Of.f (rd x27 x29) x125001).bind fun bt140 => ((label_Below.f bt140.1 bt140.2 x125000 x125001).bind fun t142 => (if t142 = true then (pyxlaw8_LabelBack.l0 k x7 x27 x28 (wrap64 (x29 + 1)) x125000 x125001 x130000 x130001 bt138.1 bt138.2) else (some false)))))) else (none)) else (none)) else ((pyxlaw8_known.f).bind fun t134 => (if t134 = true then (if x7 = 0 then (if (x125000 == x130000 && (x125001 == x130001)) = true then (some (x131000 == x125000 && (x131001 == x125001))) else (some false)) else (some false)) else (some false)))
def pyxlaw8_LabelBack.f (k : Nat) (a0 : Int) (a1 : Int) : Option (Bool) := (pyxhand_Pick.f a0 256).bind fun t122 => ((pyxhand_Pick.f a1 4).bind fun t123 => ((label_Print.f (IntKind.u64.wrap (t122)) t123).bind fun t125 => ((label_Read.f t125).bind fun bt126 => ((label_Members.f k (IntKind.u64.wrap (t122)) t123).bind fun t131 => (pyxlaw8_LabelBack.l0 k bt126.2.2 t131 (t131.length : Int) 0 (IntKind.u64.wrap (t122)) t123 bt126.1 bt126.2.1 0 t123)))))
theorem pyxlaw8_LabelBack.mono_l : ∀ k, (∀ y0 y1 y2 y3 y4 y5 y6 y7 y8 y9, LeO (pyxlaw8_LabelBack.l0 k y0 y1 y2 y3 y4 y5 y6 y7 y8 y9) (pyxlaw8_LabelBack.l0 (k + 1) y0 y1 y2 y3 y4 y5 y6 y7 y8 y9))
  | 0 => fun _ _ _ _ _ _ _ _ _ _ r h => by simp [pyxlaw8_LabelBack.l0] at h
  | k + 1 => by
    have ih0 := pyxlaw8_LabelBack.mono_l k
    · intro y0 y1 y2 y3 y4 y5 y6 y7 y8 y9
      unfold pyxlaw8_LabelBack.l0
      repeat' first
      | (with_reducible exact ih0 _ _ _ _ _ _ _ _ _ _)
      | (with_reducible exact label_Members.mono _ _ _)
      | (with_reducible exact LeO.refl _)
      | (with_reducible exact LeO.none _)
      | (with_reducible refine LeO.ite ?_ ?_)
      | (with_reducible refine LeO.bind ?_ (fun _ => ?_))
      | exact ih0 _ _ _ _ _ _ _ _ _ _
      | exact label_Members.mono _ _ _
      | exact LeO.none _
      | refine LeO.ite ?_ ?_
      | refine LeO.bind ?_ (fun _ => ?_)
theorem pyxlaw8_LabelBack.mono : ∀ a0 a1 k, LeO (pyxlaw8_LabelBack.f k a0 a1) (pyxlaw8_LabelBack.f (k + 1) a0 a1) := by
  intro a0 a1 k
  have ih0 := pyxlaw8_LabelBack.mono_l k
  unfold pyxlaw8_LabelBack.f
  repeat' first
      | (with_reducible exact ih0 _ _ _ _ _ _ _ _ _ _)
      | (with_reducible exact label_Members.mono _ _ _)
      | (with_reducible exact LeO.refl _)
      | (with_reducible exact LeO.none _)
      | (with_reducible refine LeO.ite ?_ ?_)
      | (with_reducible refine LeO.bind ?_ (fun _ => ?_))
      | exact ih0 _ _ _ _ _ _ _ _ _ _
      | exact label_Members.mono _ _ _
      | exact LeO.none _
      | refine LeO.ite ?_ ?_
      | refine LeO.bind ?_ (fun _ => ?_)
set_option maxHeartbeats 8000000 in
set_option maxRecDepth 100000 in
theorem pyxlaw8_LabelBack.calls (k : Nat) (a0 : Int) (a1 : Int) (r : Bool) (w : World) (h : pyxlaw8_LabelBack.f k a0 a1 = some r) :
    Calls Tryd.prog 5 #[.int .i64 a0, .int .i64 a1] w fun e w' => e = .returned (.bool r) ∧ Below w.heap.size w w' := by
  have hu25 := Tryd.underlying25
  have HB := Aside0.mk (Below.refl w.heap.size w)
  have H : ((pyxhand_Pick.f a0 256).bind fun t122 => ((pyxhand_Pick.f a1 4).bind fun t123 => ((label_Print.f (IntKind.u64.wrap (t122)) t123).bind fun t125 => ((label_Read.f t125).bind fun bt126 => ((label_Members.f k (IntKind.u64.wrap (t122)) t123).bind fun t131 => (pyxlaw8_LabelBack.l0 k bt126.2.2 t131 (t131.length : Int) 0 (IntKind.u64.wrap (t122)) t123 bt126.1 bt126.2.1 0 t123)))))) = some r := h
  clear h
  replace H := Option.bind_eq_some_iff.mp H
  obtain ⟨t122, A30, H⟩ := H
  replace H : ((pyxhand_Pick.f a1 4).bind fun t123 => ((label_Print.f (IntKind.u64.wrap (t122)) t123).bind fun t125 => ((label_Read.f t125).bind fun bt126 => ((label_Members.f k (IntKind.u64.wrap (t122)) t123).bind fun t131 => (pyxlaw8_LabelBack.l0 k bt126.2.2 t131 (t131.length : Int) 0 (IntKind.u64.wrap (t122)) t123 bt126.1 bt126.2.1 0 t123))))) = some r := H
  have A3 := Aside0.mk A30
  clear A30
  replace H := Option.bind_eq_some_iff.mp H
  obtain ⟨t123, A40, H⟩ := H
  replace H : ((label_Print.f (IntKind.u64.wrap (t122)) t123).bind fun t125 => ((label_Read.f t125).bind fun bt126 => ((label_Members.f k (IntKind.u64.wrap (t122)) t123).bind fun t131 => (pyxlaw8_LabelBack.l0 k bt126.2.2 t131 (t131.length : Int) 0 (IntKind.u64.wrap (t122)) t123 bt126.1 bt126.2.1 0 t123)))) = some r := H
  have A4 := Aside0.mk A40
  clear A40
  replace H := Option.bind_eq_some_iff.mp H
  obtain ⟨t125, A50, H⟩ := H
  replace H : ((label_Read.f t125).bind fun bt126 => ((label_Members.f k (IntKind.u64.wrap (t122)) t123).bind fun t131 => (pyxlaw8_LabelBack.l0 k bt126.2.2 t131 (t131.length : Int) 0 (IntKind.u64.wrap (t122)) t123 bt126.1 bt126.2.1 0 t123))) = some r := H
  have A5 := Aside0.mk A50
  clear A50
  replace H := Option.bind_eq_some_iff.mp H
  obtain ⟨⟨t126, t127, t128⟩, A60, H⟩ := H
  replace H : ((label_Members.f k (IntKind.u64.wrap (t122)) t123).bind fun t131 => (pyxlaw8_LabelBack.l0 k t128 t131 (t131.length : Int) 0 (IntKind.u64.wrap (t122)) t123 t126 t127 0 t123)) = some r := H
  have A6 := Aside0.mk A60
  clear A60
  replace H := Option.bind_eq_some_iff.mp H
  obtain ⟨t131, A70, H⟩ := H
  replace H : (pyxlaw8_LabelBack.l0 k t128 t131 (t131.length : Int) 0 (IntKind.u64.wrap (t122)) t123 t126 t127 0 t123) = some r := H
  have A7 := Aside0.mk A70
  clear A70
  have H' := Aside0.mk H
  clear H
  go_enter Tryd.func5, Tryd.ntmps5
  go_wp2_with (first | ((with_reducible refine gate_callee (f := 8) rfl ?_); refine goesL_ (some 12) rfl rfl Tryd.func8 (by kernel_rfl) rfl #[.int .i64 a0, .int .i64 256] rfl (by (try simp only [List.map_toArray, List.map_cons, List.map_nil]); first | done | rfl | (simp only [List.length_drop, List.length_take]; rfl)) ?_; (with_reducible refine (pyxhand_Pick.calls a0 256 t122 _ A3.out).mono ?_); rintro e w' ⟨rfl, ⟨nd, rfl⟩⟩; refine ⟨_, rfl, ?_⟩) | ((with_reducible refine gate_callee (f := 8) rfl ?_); refine goesL_ (some 15) rfl rfl Tryd.func8 (by kernel_rfl) rfl #[.int .i64 a1, .int .i64 4] rfl (by (try simp only [List.map_toArray, List.map_cons, List.map_nil]); first | done | rfl | (simp only [List.length_drop, List.length_take]; rfl)) ?_; (with_reducible refine (pyxhand_Pick.calls a1 4 t123 _ A4.out).mono ?_); rintro e w' ⟨rfl, ⟨nd, rfl⟩⟩; refine ⟨_, rfl, ?_⟩) | ((with_reducible refine gate_dst (N := 5) rfl ?_); refine box_event ?hg (N := 5) ?hd (cs := #[.int .u64 0, .int .i64 0]) (t := 25) ?hr ?_; (case hd => rfl); (case hg => rfl); (case hr => first | (go_simp; done) | (go_simp; rfl)); intro gb124 hg w8 hbox hb; have n0_ := Aside0.mk (below_step (by repeat (first | (with_reducible first | exact HB.out | apply below_alloc | apply pw_below_drewN | apply below_drew1) | exact HB.out)) hb); have n1_ := Aside0.mk (hbox); have n2_ := Aside0.mk ((by rw [hg]; exact (below_size (by repeat (first | (with_reducible first | exact HB.out | apply below_alloc | apply pw_below_drewN | apply below_drew1) | exact HB.out))) : w.heap.size ≤ gb124)); have n3_ := Aside0.mk ((by rw [hg]; exact (below_size (by repeat (first | (with_reducible first | exact HB.out | apply below_alloc | apply pw_below_drewN | apply below_drew1) | exact HB.out))) : w.heap.size ≤ gb124)); clear HB; have HB := n0_; have BK124 := n1_; have GW124 := n2_; have GE124 := n3_; clear n0_ n1_ n2_ n3_; clear hb hbox hg; have hcz9_0 : w8.cell? ⟨gb124, 0, none⟩ = some (.int .u64 0) := (blk_cell BK124.out 0).trans rfl; have hcz9_1 : w8.cell? ⟨gb124, 1, none⟩ = some (.int .i64 0) := (blk_cell BK124.out 1).trans rfl; have hfz9_0 := blk_frozen BK124.out 0; have hfz9_1 := blk_frozen BK124.out 1) | ((with_reducible refine gate_callee (f := 15) rfl ?_); refine goesL_ (some 19) rfl rfl Tryd.func15 (by kernel_rfl) rfl #[.agg #[.int .u64 (IntKind.u64.wrap (t122)), .int .i64 t123]] rfl (by (try simp only [List.map_toArray, List.map_cons, List.map_nil]); first | done | rfl | (simp only [List.length_drop, List.length_take]; rfl)) ?_; (with_reducible refine (label_Print.calls (IntKind.u64.wrap (t122)) t123 t125 _ A5.out).mono ?_); rintro e w10 ⟨rfl, hb⟩; refine ⟨_, rfl, ?_⟩; have n0_ := Aside0.mk (blk_below (g := gb124) (o := .cells #[.int .u64 (IntKind.u64.wrap (t122)), .int .i64 t123] 25 (0, 0)) (by (with_reducible repeat (first | refine blk_drewN ?_ _ | refine blk_drew ?_ | refine blk_alloc ?_ _)); refine blk_put (cs := #[.int .u64 (IntKind.u64.wrap (t122)), .int .i64 0]) ?_ 1 _ rfl; (with_reducible repeat (first | refine blk_drewN ?_ _ | refine blk_drew ?_ | refine blk_alloc ?_ _)); refine blk_put (cs := #[.int .u64 0, .int .i64 0]) ?_ 0 _ rfl; (with_reducible repeat (first | refine blk_drewN ?_ _ | refine blk_drew ?_ | refine blk_alloc ?_ _)); exact BK124.out) hb); have n1_ := Aside0.mk (below_step (by repeat (first | (with_reducible first | exact HB.out | apply below_alloc | apply pw_below_drewN | apply below_drew1 | refine below_set ?_ GE124.out) | exact HB.out)) hb); clear BK124; clear HB; have BK124 := n0_; have HB := n1_; clear n0_ n1_; (try clear hb); (try clear hb2); (try clear hk); (try clear hi)) | ((with_reducible refine gate_callee (f := 14) rfl ?_); refine goesL_ (some 20) rfl rfl Tryd.func14 (by kernel_rfl) rfl #[.string t125] rfl (by (try simp only [List.map_toArray, List.map_cons, List.map_nil]); first | done | rfl | (simp only [List.length_drop, List.length_take]; rfl)) ?_; (with_reducible refine (label_Read.calls t125 t126 t127 t128 _ A6.out).mono ?_); rintro e w11 ⟨rfl, hb⟩; refine ⟨_, rfl, ?_⟩; have n0_ := Aside0.mk (blk_below (g := gb124) (o := .cells #[.int .u64 (IntKind.u64.wrap (t122)), .int .i64 t123] 25 (0, 0)) (by (with_reducible repeat (first | refine blk_drewN ?_ _ | refine blk_drew ?_ | refine blk_alloc ?_ _)); exact BK124.out) hb); have n1_ := Aside0.mk (below_step (by repeat (first | (with_reducible first | exact HB.out | apply below_alloc | apply pw_below_drewN | apply below_drew1 | refine below_set ?_ GE124.out) | exact HB.out)) hb); clear BK124; clear HB; have BK124 := n0_; have HB := n1_; clear n0_ n1_; (try clear hb); (try clear hb2); (try clear hk); (try clear hi)) | ((with_reducible refine gate_dst (N := 6) rfl ?_); refine box_event ?hg (N := 6) ?hd (cs := #[.int .u64 0, .int .i64 0]) (t := 25) ?hr ?_; (case hd => rfl); (case hg => rfl); (case hr => first | (go_simp; done) | (go_simp; rfl)); intro gb129 hg w12 hbox hb; have n0_ := Aside0.mk (blk_below (g := gb124) (o := .cells #[.int .u64 (IntKind.u64.wrap (t122)), .int .i64 t123] 25 (0, 0)) (by (with_reducible repeat (first | refine blk_drewN ?_ _ | refine blk_drew ?_ | refine blk_alloc ?_ _)); exact BK124.out) hb); have n1_ := Aside0.mk (below_step (by repeat (first | (with_reducible first | exact HB.out | apply below_alloc | apply pw_below_drewN | apply below_drew1 | refine below_set ?_ GE124.out) | exact HB.out)) hb); have n2_ := Aside0.mk (hbox); have n3_ := Aside0.mk ((by rw [hg]; exact (below_size (by repeat (first | (with_reducible first | exact HB.out | apply below_alloc | apply pw_below_drewN | apply below_drew1 | refine below_set ?_ GE124.out) | exact HB.out))) : w.heap.size ≤ gb129)); have n4_ := Aside0.mk ((by rw [hg]; exact (below_size (by repeat (first | (with_reducible first | exact HB.out | apply below_alloc | apply pw_below_drewN | apply below_drew1 | refine below_set ?_ GE124.out) | exact HB.out))) : w.heap.size ≤ gb129)); have n5_ := Aside0.mk ((by rw [hg]; exact Nat.ne_of_lt (blk_lt (g := gb124) (o := .cells #[.int .u64 (IntKind.u64.wrap (t122)), .int .i64 t123] 25 (0, 0)) (by (with_reducible repeat (first | refine blk_drewN ?_ _ | refine blk_drew ?_ | refine blk_alloc ?_ _)); exact BK124.out)) : gb124 ≠ gb129)); have n6_ := Aside0.mk ((by rw [hg]; exact Nat.ne_of_gt (blk_lt (g := gb124) (o := .cells #[.int .u64 (IntKind.u64.wrap (t122)), .int .i64 t123] 25 (0, 0)) (by (with_reducible repeat (first | refine blk_drewN ?_ _ | refine blk_drew ?_ | refine blk_alloc ?_ _)); exact BK124.out)) : gb129 ≠ gb124)); clear BK124; clear HB; have BK124 := n0_; have HB := n1_; have BK129 := n2_; have GW129 := n3_; have GE129 := n4_; have NB124_129 := n5_; have NB129_124 := n6_; clear n0_ n1_ n2_ n3_ n4_ n5_ n6_; clear hb hbox hg; have hnb13 := NB129_124.out; have hnc13 := NB124_129.out; have hcz14_0 : w12.cell? ⟨gb129, 0, none⟩ = some (.int .u64 0) := (blk_cell BK129.out 0).trans rfl; have hcz14_1 : w12.cell? ⟨gb129, 1, none⟩ = some (.int .i64 0) := (blk_cell BK129.out 1).trans rfl; have hfz14_0 := blk_frozen BK129.out 0; have hfz14_1 := blk_frozen BK129.out 1; have hcz15_0 : w12.cell? ⟨gb124, 0, none⟩ = some (.int .u64 (IntKind.u64.wrap (t122))) := (blk_cell BK124.out 0).trans rfl; have hcz15_1 : w12.cell? ⟨gb124, 1, none⟩ = some (.int .i64 t123) := (blk_cell BK124.out 1).trans rfl; have hfz15_0 := blk_frozen BK124.out 0; have hfz15_1 := blk_frozen BK124.out 1) | ((with_reducible refine gate_dst (N := 8) rfl ?_); refine box_event ?hg (N := 8) ?hd (cs := #[.int .u64 0, .int .i64 0]) (t := 25) ?hr ?_; (case hd => rfl); (case hg => rfl); (case hr => first | (go_simp; done) | (go_simp; rfl)); intro gb130 hg w16 hbox hb; have n0_ := Aside0.mk (blk_below (g := gb124) (o := .cells #[.int .u64 (IntKind.u64.wrap (t122)), .int .i64 t123] 25 (0, 0)) (by (with_reducible repeat (first | refine blk_drewN ?_ _ | refine blk_drew ?_ | refine blk_alloc ?_ _)); refine blk_far ?_ NB124_129.out _; (with_reducible repeat (first | refine blk_drewN ?_ _ | refine blk_drew ?_ | refine blk_alloc ?_ _)); refine blk_far ?_ NB124_129.out _; (with_reducible repeat (first | refine blk_drewN ?_ _ | refine blk_drew ?_ | refine blk_alloc ?_ _)); exact BK124.out) hb); have n1_ := Aside0.mk (blk_below (g := gb129) (o := .cells #[.int .u64 t126, .int .i64 t127] 25 (0, 0)) (by (with_reducible repeat (first | refine blk_drewN ?_ _ | refine blk_drew ?_ | refine blk_alloc ?_ _)); refine blk_put (cs := #[.int .u64 t126, .int .i64 0]) ?_ 1 _ rfl; (with_reducible repeat (first | refine blk_drewN ?_ _ | refine blk_drew ?_ | refine blk_alloc ?_ _)); refine blk_put (cs := #[.int .u64 0, .int .i64 0]) ?_ 0 _ rfl; (with_reducible repeat (first | refine blk_drewN ?_ _ | refine blk_drew ?_ | refine blk_alloc ?_ _)); exact BK129.out) hb); have n2_ := Aside0.mk (below_step (by repeat (first | (with_reducible first | exact HB.out | apply below_alloc | apply pw_below_drewN | apply below_drew1 | refine below_set ?_ GE124.out | refine below_set ?_ GE129.out) | exact HB.out)) hb); have n3_ := Aside0.mk (hbox); have n4_ := Aside0.mk ((by rw [hg]; exact (below_size (by repeat (first | (with_reducible first | exact HB.out | apply below_alloc | apply pw_below_drewN | apply below_drew1 | refine below_set ?_ GE124.out | refine below_set ?_ GE129.out) | exact HB.out))) : w.heap.size ≤ gb130)); have n5_ := Aside0.mk ((by rw [hg]; exact (below_size (by repeat (first | (with_reducible first | exact HB.out | apply below_alloc | apply pw_below_drewN | apply below_drew1 | refine below_set ?_ GE124.out | refine below_set ?_ GE129.out) | exact HB.out))) : w.heap.size ≤ gb130)); have n6_ := Aside0.mk ((by rw [hg]; exact Nat.ne_of_lt (blk_lt (g := gb124) (o := .cells #[.int .u64 (IntKind.u64.wrap (t122)), .int .i64 t123] 25 (0, 0)) (by (with_reducible repeat (first | refine blk_drewN ?_ _ | refine blk_drew ?_ | refine blk_alloc ?_ _)); refine blk_far ?_ NB124_129.out _; (with_reducible repeat (first | refine blk_drewN ?_ _ | refine blk_drew ?_ | refine blk_alloc ?_ _)); refine blk_far ?_ NB124_129.out _; (with_reducible repeat (first | refine blk_drewN ?_ _ | refine blk_drew ?_ | refine blk_alloc ?_ _)); exact BK124.out)) : gb124 ≠ gb130)); have n7_ := Aside0.mk ((by rw [hg]; exact Nat.ne_of_gt (blk_lt (g := gb124) (o := .cells #[.int .u64 (IntKind.u64.wrap (t122)), .int .i64 t123] 25 (0, 0)) (by (with_reducible repeat (first | refine blk_drewN ?_ _ | refine blk_drew ?_ | refine blk_alloc ?_ _)); refine blk_far ?_ NB124_129.out _; (with_reducible repeat (first | refine blk_drewN ?_ _ | refine blk_drew ?_ | refine blk_alloc ?_ _)); refine blk_far ?_ NB124_129.out _; (with_reducible repeat (first | refine blk_drewN ?_ _ | refine blk_drew ?_ | refine blk_alloc ?_ _)); exact BK124.out)) : gb130 ≠ gb124)); have n8_ := Aside0.mk ((by rw [hg]; exact Nat.ne_of_lt (blk_lt (g := gb129) (o := .cells #[.int .u64 t126, .int .i64 t127] 25 (0, 0)) (by (with_reducible repeat (first | refine blk_drewN ?_ _ | refine blk_drew ?_ | refine blk_alloc ?_ _)); refine blk_put (cs := #[.int .u64 t126, .int .i64 0]) ?_ 1 _ rfl; (with_reducible repeat (first | refine blk_drewN ?_ _ | refine blk_drew ?_ | refine blk_alloc ?_ _)); refine blk_put (cs := #[.int .u64 0, .int .i64 0]) ?_ 0 _ rfl; (with_reducible repeat (first | refine blk_drewN ?_ _ | refine blk_drew ?_ | refine blk_alloc ?_ _)); exact BK129.out)) : gb129 ≠ gb130)); have n9_ := Aside0.mk ((by rw [hg]; exact Nat.ne_of_gt (blk_lt (g := gb129) (o := .cells #[.int .u64 t126, .int .i64 t127] 25 (0, 0)) (by (with_reducible repeat (first | refine blk_drewN ?_ _ | refine blk_drew ?_ | refine blk_alloc ?_ _)); refine blk_put (cs := #[.int .u64 t126, .int .i64 0]) ?_ 1 _ rfl; (with_reducible repeat (first | refine blk_drewN ?_ _ | refine blk_drew ?_ | refine blk_alloc ?_ _)); refine blk_put (cs := #[.int .u64 0, .int .i64 0]) ?_ 0 _ rfl; (with_reducible repeat (first | refine blk_drewN ?_ _ | refine blk_drew ?_ | refine blk_alloc ?_ _)); exact BK129.out)) : gb130 ≠ gb129)); clear BK124; clear BK129; clear HB; have BK124 := n0_; have BK129 := n1_; have HB := n2_; have BK130 := n3_; have GW130 := n4_; have GE130 := n5_; have NB124_130 := n6_; have NB130_124 := n7_; have NB129_130 := n8_; have NB130_129 := n9_; clear n0_ n1_ n2_ n3_ n4_ n5_ n6_ n7_ n8_ n9_; clear hb hbox hg; have hnb17 := NB130_124.out; have hnc17 := NB124_130.out; have hnb18 := NB130_129.out; have hnc18 := NB129_130.out; have hcz19_0 : w16.cell? ⟨gb130, 0, none⟩ = some (.int .u64 0) := (blk_cell BK130.out 0).trans rfl; have hcz19_1 : w16.cell? ⟨gb130, 1, none⟩ = some (.int .i64 0) := (blk_cell BK130.out 1).trans rfl; have hfz19_0 := blk_frozen BK130.out 0; have hfz19_1 := blk_frozen BK130.out 1; have hcz20_0 : w16.cell? ⟨gb124, 0, none⟩ = some (.int .u64 (IntKind.u64.wrap (t122))) := (blk_cell BK124.out 0).trans rfl; have hcz20_1 : w16.cell? ⟨gb124, 1, none⟩ = some (.int .i64 t123) := (blk_cell BK124.out 1).trans rfl; have hfz20_0 := blk_frozen BK124.out 0; have hfz20_1 := blk_frozen BK124.out 1) | ((with_reducible refine gate_callee (f := 13) rfl ?_); refine goesL_ (some 27) rfl rfl Tryd.func13 (by kernel_rfl) rfl #[.agg #[.int .u64 (IntKind.u64.wrap (t122)), .int .i64 t123]] rfl (by (try simp only [List.map_toArray, List.map_cons, List.map_nil]); first | done | rfl | (simp only [List.length_drop, List.length_take]; rfl)) ?_; (with_reducible refine (label_Members.calls k (IntKind.u64.wrap (t122)) t123 t131 _ A7.out).mono ?_); rintro e w21 ⟨v132, rfl, ho0, hb⟩; refine ⟨_, rfl, ?_⟩; have n0_ := Aside0.mk (Kd.R_lower ho0 (below_size (by repeat (first | (with_reducible first | exact HB.out | apply below_alloc | apply pw_below_drewN | apply below_drew1 | refine below_set ?_ GE124.out | refine below_set ?_ GE129.out | refine below_set ?_ GE130.out) | exact HB.out)))); have n1_ := Aside0.mk (blk_below (g := gb124) (o := .cells #[.int .u64 (IntKind.u64.wrap (t122)), .int .i64 t123] 25 (0, 0)) (by (with_reducible repeat (first | refine blk_drewN ?_ _ | refine blk_drew ?_ | refine blk_alloc ?_ _)); refine blk_far ?_ NB124_130.out _; (with_reducible repeat (first | refine blk_drewN ?_ _ | refine blk_drew ?_ | refine blk_alloc ?_ _)); refine blk_far ?_ NB124_130.out _; (with_reducible repeat (first | refine blk_drewN ?_ _ | refine blk_drew ?_ | refine blk_alloc ?_ _)); exact BK124.out) hb); have n2_ := Aside0.mk (blk_below (g := gb129) (o := .cells #[.int .u64 t126, .int .i64 t127] 25 (0, 0)) (by (with_reducible repeat (first | refine blk_drewN ?_ _ | refine blk_drew ?_ | refine blk_alloc ?_ _)); refine blk_far ?_ NB129_130.out _; (with_reducible repeat (first | refine blk_drewN ?_ _ | refine blk_drew ?_ | refine blk_alloc ?_ _)); refine blk_far ?_ NB129_130.out _; (with_reducible repeat (first | refine blk_drewN ?_ _ | refine blk_drew ?_ | refine blk_alloc ?_ _)); exact BK129.out) hb); have n3_ := Aside0.mk (blk_below (g := gb130) (o := .cells #[.int .u64 0, .int .i64 t123] 25 (0, 0)) (by (with_reducible repeat (first | refine blk_drewN ?_ _ | refine blk_drew ?_ | refine blk_alloc ?_ _)); refine blk_put (cs := #[.int .u64 0, .int .i64 0]) ?_ 1 _ rfl; (with_reducible repeat (first | refine blk_drewN ?_ _ | refine blk_drew ?_ | refine blk_alloc ?_ _)); refine blk_put (cs := #[.int .u64 0, .int .i64 0]) ?_ 0 _ rfl; (with_reducible repeat (first | refine blk_drewN ?_ _ | refine blk_drew ?_ | refine blk_alloc ?_ _)); exact BK130.out) hb); have n4_ := Aside0.mk (below_step (by repeat (first | (with_reducible first | exact HB.out | apply below_alloc | apply pw_below_drewN | apply below_drew1 | refine below_set ?_ GE124.out | refine below_set ?_ GE129.out | refine below_set ?_ GE130.out) | exact HB.out)) hb); clear BK124; clear BK129; clear BK130; clear HB; have HO133 := n0_; have BK124 := n1_; have BK129 := n2_; have BK130 := n3_; have HB := n4_; clear n0_ n1_ n2_ n3_ n4_; (try clear hb); (try clear hb2); (try clear hk); (try clear hi); (try clear ho0); obtain ⟨Ao22, co22, eo22⟩ := Kd.R_slice HO133.out; subst eo22))
  go_loopg [29] k (fun kq v29 w' => ∃ (x29_1 : Int) (x131000_1 : Int) (x131001_1 : Int), v29 = .int .i64 x29_1 ∧ Aside0 (pyxlaw8_LabelBack.l0 kq t128 t131 (t131.length : Int) x29_1 (IntKind.u64.wrap (t122)) t123 t126 t127 x131000_1 x131001_1 = some r) ∧ Aside0 (kq ≤ k) ∧ Aside0 (Kd.R (Kd.int .i64) 3 w' w.heap.size (fun _ => True) (.slice Ao22 t131.length co22) t131) ∧ Aside0 (w'.heap[gb124]? = some (.cells #[.int .u64 (IntKind.u64.wrap (t122)), .int .i64 t123] 25 (0, 0))) ∧ Aside0 (w'.heap[gb129]? = some (.cells #[.int .u64 t126, .int .i64 t127] 25 (0, 0))) ∧ Aside0 (w'.heap[gb130]? = some (.cells #[.int .u64 x131000_1, .int .i64 x131001_1] 25 (0, 0))) ∧ Aside0 (Below w.heap.size w w'))
  case atStart => exact ⟨(0), (0), (t123), (by first | rfl | (simp; done) | (simp [*]; done)), H', ⟨Nat.le_refl _⟩, ⟨by (with_reducible repeat (first | apply Kd.R_alloc | apply Kd.R_drewN | apply Kd.R_drew)); exact HO133.out⟩, ⟨by (with_reducible repeat (first | refine blk_drewN ?_ _ | refine blk_drew ?_ | refine blk_alloc ?_ _)); exact BK124.out⟩, ⟨by (with_reducible repeat (first | refine blk_drewN ?_ _ | refine blk_drew ?_ | refine blk_alloc ?_ _)); exact BK129.out⟩, ⟨by (with_reducible repeat (first | refine blk_drewN ?_ _ | refine blk_drew ?_ | refine blk_alloc ?_ _)); exact BK130.out⟩, ⟨by repeat (first | (with_reducible first | exact HB.out | apply below_alloc | apply pw_below_drewN | apply below_drew1 | refine below_set ?_ GE124.out | refine below_set ?_ GE129.out | refine below_set ?_ GE130.out) | exact HB.out)⟩⟩
  case round =>
    clear H'
    try clear c1
    try clear p2
    try clear c5
    try clear c8
    try clear c13
    try clear c14
    try clear c15
    try clear c17
    try clear c18
    try clear hcz14_0
    try clear hcz14_1
    try clear hcz15_0
    try clear hcz15_1
    try clear hcz19_0
    try clear hcz19_1
    try clear hcz20_0
    try clear hcz20_1
    try clear hcz9_0
    try clear hcz9_1
    try clear hfz14_0
    try clear hfz14_1
    try clear hfz15_0
    try clear hfz15_1
    try clear hfz19_0
    try clear hfz19_1
    try clear hfz20_0
    try clear hfz20_1
    try clear hfz9_0
    try clear hfz9_1
    obtain ⟨x29_1, x131000_1, x131001_1, rfl, HA, HK1, HO_27, BK124, BK129, BK130, HB⟩ := hrel
    cases gk with
    | zero => exact absurd HA.out (by simp [pyxlaw8_LabelBack.l0])
    | succ k1 =>
      have H := HA.out
      clear HA
      simp only [pyxlaw8_LabelBack.l0] at H
      by_cases c23 : x29_1 < (t131.length : Int)
      · rw [if_pos c23] at H
        have c23b0 : decide (x29_1 < (t131.length : Int)) = true := decide_eq_true c23
        clear c23
        by_cases c24 : 0 ≤ x29_1
        · rw [if_pos c24] at H
          have c24b0 : decide (0 ≤ x29_1) = true := decide_eq_true c24
          clear c24
          by_cases c25 : x29_1 < (t131.length : Int)
          · rw [if_pos c25] at H
            have c25b0 : decide (x29_1 < (t131.length : Int)) = true := decide_eq_true c25
            clear c25
            replace H := Option.bind_eq_some_iff.mp H
            obtain ⟨⟨t136, t137⟩, A260, H⟩ := H
            replace H : ((label_Join.f x131000_1 x131001_1 t136 t137).bind fun bt138 => ((label_Of.f (rd t131 x29_1) t123).bind fun bt140 => ((label_Below.f bt140.1 bt140.2 (IntKind.u64.wrap (t122)) t123).bind fun t142 => (if t142 = true then (pyxlaw8_LabelBack.l0 k1 t128 t131 (t131.length : Int) (wrap64 (x29_1 + 1)) (IntKind.u64.wrap (t122)) t123 t126 t127 bt138.1 bt138.2) else (some false))))) = some r := H
            have A26 := Aside0.mk A260
            clear A260
            replace H := Option.bind_eq_some_iff.mp H
            obtain ⟨⟨t138, t139⟩, A270, H⟩ := H
            replace H : ((label_Of.f (rd t131 x29_1) t123).bind fun bt140 => ((label_Below.f bt140.1 bt140.2 (IntKind.u64.wrap (t122)) t123).bind fun t142 => (if t142 = true then (pyxlaw8_LabelBack.l0 k1 t128 t131 (t131.length : Int) (wrap64 (x29_1 + 1)) (IntKind.u64.wrap (t122)) t123 t126 t127 t138 t139) else (some false)))) = some r := H
            have A27 := Aside0.mk A270
            clear A270
            replace H := Option.bind_eq_some_iff.mp H
            obtain ⟨⟨t140, t141⟩, A280, H⟩ := H
            replace H : ((label_Below.f t140 t141 (IntKind.u64.wrap (t122)) t123).bind fun t142 => (if t142 = true then (pyxlaw8_LabelBack.l0 k1 t128 t131 (t131.length : Int) (wrap64 (x29_1 + 1)) (IntKind.u64.wrap (t122)) t123 t126 t127 t138 t139) else (some false))) = some r := H
            have A28 := Aside0.mk A280
            clear A280
            replace H := Option.bind_eq_some_iff.mp H
            obtain ⟨t142, A290, H⟩ := H
            replace H : (if t142 = true then (pyxlaw8_LabelBack.l0 k1 t128 t131 (t131.length : Int) (wrap64 (x29_1 + 1)) (IntKind.u64.wrap (t122)) t123 t126 t127 t138 t139) else (some false)) = some r := H
            have A29 := Aside0.mk A290
            clear A290
            by_cases c30 : t142 = true
            · subst c30
              have H1 : (pyxlaw8_LabelBack.l0 k1 t128 t131 (t131.length : Int) (wrap64 (x29_1 + 1)) (IntKind.u64.wrap (t122)) t123 t126 t127 t138 t139) = some r := by rw [if_pos rfl] at H; exact H
              clear H
              have H := H1
              clear H1
              have H' := Aside0.mk H
              clear H
              have p135 : 0 ≤ (x29_1 : Int) := of_decide_eq_true (by first | (with_reducible assumption) | assumption)
              have q135 : x29_1 < (t131.length : Int) := of_decide_eq_true (by first | (with_reducible assumption) | assumption)
              obtain ⟨ad135, e135, hx135_0⟩ := Kd.at_int (Kd.R_reads' HO_27.out).2.2 x29_1 p135 q135
              cases e135
              replace p135 := eq_true p135
              replace q135 := eq_true q135
              try go_wp2
              have n0_ := Aside0.mk (Kd.R_drew HO_27.out)
              have n1_ := Aside0.mk (blk_drew BK124.out)
              have n2_ := Aside0.mk (blk_drew BK129.out)
              have n3_ := Aside0.mk (blk_drew BK130.out)
              have n4_ := Aside0.mk (below_drew1 HB.out)
              clear HO_27
              clear BK124
              clear BK129
              clear BK130
              clear HB
              have HO_27 := n0_
              have BK124 := n1_
              have BK129 := n2_
              have BK130 := n3_
              have HB := n4_
              clear n0_ n1_ n2_ n3_ n4_
              refine start_ (n := 5) (S := fun w' => w'.cell? ⟨gb130, 0, none⟩ = some (.int .u64 x131000_1) ∧ w'.cell? ⟨gb130, 1, none⟩ = some (.int .i64 x131001_1)) (ds := [4]) #[false, false, false, false, false] (by kernel_rfl) rfl rfl ⟨(blk_cell BK130.out 0).trans rfl, (blk_cell BK130.out 1).trans rfl⟩ (fun hHeld => ?_)
              generalize wr.drew = w31 at HO_27 BK124 BK129 BK130 HB hHeld ⊢
              refine pure_ (i := 1) (N := some 34) (v := ?_) (a' := ?_) #[false, true, false, false, false] rfl rfl (by kernel_rfl) (fun _ _ _ h => h) (Or.inl ⟨by rfl, ?_⟩) ?_ ?_
              rotate_left
              · intro w'
                go_simp
                with_reducible rfl
              rotate_left
              · simp only [Act.put, List.setIfInBounds_toArray, List.set_cons_zero, List.set_cons_succ, i64_w, i32_w]
                rfl
              refine take_ (i := 0) (N := some 33) (v := ?_) (a' := ?_) #[true, true, false, false, false] rfl rfl (by kernel_rfl) (fun _ _ _ h => h) (Or.inl ⟨by rfl, ?_⟩) hHeld ?_ ?_
              rotate_left
              · rintro w' ⟨s0, s1⟩
                go_simp
                with_reducible rfl
              rotate_left
              · simp only [Act.put, List.setIfInBounds_toArray, List.set_cons_zero, List.set_cons_succ, i64_w, i32_w]
                rfl
              refine one_ (i := 2) (N := some 35) #[true, true, true, false, false] rfl rfl (by kernel_rfl) (by decide) (fun K hK => ?_)
              refine goes_ Tryd.func16 (by kernel_rfl) rfl #[.int .i64 (rd t131 x29_1), .int .i64 0] (by rfl) rfl rfl (by (try simp only [List.map_toArray, List.map_cons, List.map_nil]); first | done | rfl | (simp only [List.length_drop, List.length_take]; rfl)) ?_
              with_reducible refine (label_Of.calls (rd t131 x29_1) 0 t136 t137 _ A26.out).mono ?_
              rintro e w32 ⟨rfl, hb⟩
              refine ⟨_, rfl, ?_⟩
              have n0_ := Aside0.mk (Kd.R_below (by (with_reducible repeat (first | apply Kd.R_alloc | apply Kd.R_drewN | apply Kd.R_drew)); exact HO_27.out) hb)
              have n1_ := Aside0.mk (blk_below (g := gb124) (o := .cells #[.int .u64 (IntKind.u64.wrap (t122)), .int .i64 t123] 25 (0, 0)) (by (with_reducible repeat (first | refine blk_drewN ?_ _ | refine blk_drew ?_ | refine blk_alloc ?_ _)); exact BK124.out) hb)
              have n2_ := Aside0.mk (blk_below (g := gb129) (o := .cells #[.int .u64 t126, .int .i64 t127] 25 (0, 0)) (by (with_reducible repeat (first | refine blk_drewN ?_ _ | refine blk_drew ?_ | refine blk_alloc ?_ _)); exact BK129.out) hb)
              have n3_ := Aside0.mk (blk_below (g := gb130) (o := .cells #[.int .u64 x131000_1, .int .i64 x131001_1] 25 (0, 0)) (by (with_reducible repeat (first | refine blk_drewN ?_ _ | refine blk_drew ?_ | refine blk_alloc ?_ _)); exact BK130.out) hb)
              have n4_ := Aside0.mk (below_step (by repeat (first | (with_reducible first | exact HB.out | apply below_alloc | apply pw_below_drewN | apply below_drew1 | refine below_set ?_ GE124.out | refine below_set ?_ GE129.out | refine below_set ?_ GE130.out) | exact HB.out)) hb)
              clear HO_27
              clear BK124
              clear BK129
              clear BK130
              clear HB
              have HO_27 := n0_
              have BK124 := n1_
              have BK129 := n2_
              have BK130 := n3_
              have HB := n4_
              clear n0_ n1_ n2_ n3_ n4_
              (try clear hb)
              (try clear hb2)
              (try clear hk)
              (try clear hi)
              refine hK.out _ _ ⟨(blk_cell BK130.out 0).trans rfl, (blk_cell BK130.out 1).trans rfl⟩ (fun hHeld => ?_)
              clear hK K
              refine norm_ (a' := ?_) ?_ ?_
              rotate_left
              · show Act.put _ (some 35) _ = _
                simp only [Act.put, List.setIfInBounds_toArray, List.set_cons_zero, List.set_cons_succ, i64_w, i32_w]
                rfl
              refine one_ (i := 3) (N := some 36) #[true, true, true, true, false] rfl rfl (by kernel_rfl) (by decide) (fun K hK => ?_)
              refine goes_ Tryd.func9 (by kernel_rfl) rfl #[.agg #[.int .u64 x131000_1, .int .i64 x131001_1], .agg #[.int .u64 t136, .int .i64 t137]] (by rfl) rfl rfl (by (try simp only [List.map_toArray, List.map_cons, List.map_nil]); first | done | rfl | (simp only [List.length_drop, List.length_take]; rfl)) ?_
              with_reducible refine (label_Join.calls x131000_1 x131001_1 t136 t137 t138 t139 _ A27.out).mono ?_
              rintro e w33 ⟨rfl, hb⟩
              refine ⟨_, rfl, ?_⟩
              have n0_ := Aside0.mk (Kd.R_below (by (with_reducible repeat (first | apply Kd.R_alloc | apply Kd.R_drewN | apply Kd.R_drew)); exact HO_27.out) hb)
              have n1_ := Aside0.mk (blk_below (g := gb124) (o := .cells #[.int .u64 (IntKind.u64.wrap (t122)), .int .i64 t123] 25 (0, 0)) (by (with_reducible repeat (first | refine blk_drewN ?_ _ | refine blk_drew ?_ | refine blk_alloc ?_ _)); exact BK124.out) hb)
              have n2_ := Aside0.mk (blk_below (g := gb129) (o := .cells #[.int .u64 t126, .int .i64 t127] 25 (0, 0)) (by (with_reducible repeat (first | refine blk_drewN ?_ _ | refine blk_drew ?_ | refine blk_alloc ?_ _)); exact BK129.out) hb)
              have n3_ := Aside0.mk (blk_below (g := gb130) (o := .cells #[.int .u64 x131000_1, .int .i64 x131001_1] 25 (0, 0)) (by (with_reducible repeat (first | refine blk_drewN ?_ _ | refine blk_drew ?_ | refine blk_alloc ?_ _)); exact BK130.out) hb)
              have n4_ := Aside0.mk (below_step (by repeat (first | (with_reducible first | exact HB.out | apply below_alloc | apply pw_below_drewN | apply below_drew1 | refine below_set ?_ GE124.out | refine below_set ?_ GE129.out | refine below_set ?_ GE130.out) | exact HB.out)) hb)
              clear HO_27
              clear BK124
              clear BK129
              clear BK130
              clear HB
              have HO_27 := n0_
              have BK124 := n1_
              have BK129 := n2_
              have BK130 := n3_
              have HB := n4_
              clear n0_ n1_ n2_ n3_ n4_
              (try clear hb)
              (try clear hb2)
              (try clear hk)
              (try clear hi)
              refine hK.out _ _ ⟨(blk_cell BK130.out 0).trans rfl, (blk_cell BK130.out 1).trans rfl⟩ (fun hHeld => ?_)
              clear hK K
              refine norm_ (a' := ?_) ?_ ?_
              rotate_left
              · show Act.put _ (some 36) _ = _
                simp only [Act.put, List.setIfInBounds_toArray, List.set_cons_zero, List.set_cons_succ, i64_w, i32_w]
                rfl
              refine last_ (i := 4) (N := none) #[true, true, true, true, true] rfl rfl (by kernel_rfl) (by decide) (fun K hK => ?_)
              have hs34 : w33.cell? ⟨gb130, 0, none⟩ = some (.int .u64 x131000_1) := (blk_cell BK130.out 0).trans rfl
              have hfs34 := blk_frozen BK130.out 0
              have hns34_0 := NB124_130.out
              have hns34_1 := NB129_130.out
              have hms34_0 := NB130_124.out
              have hms34_1 := NB130_129.out
              have hs35 : w33.cell? ⟨gb130, 1, none⟩ = some (.int .i64 x131001_1) := (blk_cell BK130.out 1).trans rfl
              have hfs35 := blk_frozen BK130.out 1
              have hns35_0 := NB124_130.out
              have hns35_1 := NB129_130.out
              have hms35_0 := NB130_124.out
              have hms35_1 := NB130_129.out
              refine skip_ (w1 := ?_) (by rfl) rfl ?_ ?_
              rotate_left
              · go_simp
                rfl
              refine hK.out _ _ ?_
              clear hK K
              refine done_ (by kernel_rfl) ?_
              try go_wp2
              have n0_ : Aside0 (Kd.R (Kd.int .i64) 3 ((w33.setCell ⟨gb130, 0, none⟩ (.int .u64 t138)).setCell ⟨gb130, 1, none⟩ (.int .i64 t139)) w.heap.size (fun _ => True) (.slice (some ad135) t131.length co22) t131) := ⟨by (with_reducible repeat (first | apply Kd.R_alloc | apply Kd.R_drewN | apply Kd.R_drew)); exact Kd.R_mono (Kd.R_far (p := ⟨gb130, 1, none⟩) (Kd.R_far (p := ⟨gb130, 0, none⟩) (Kd.R_types HO_27.out BK130.out (by decide)) (fun _ hk => hk.2) (.int .u64 t138)) (fun _ hk => hk.2) (.int .i64 t139)) (fun _ hk => trivial)⟩
              have n1_ : Aside0 (((w33.setCell ⟨gb130, 0, none⟩ (.int .u64 t138)).setCell ⟨gb130, 1, none⟩ (.int .i64 t139)).heap[gb124]? = some (.cells #[.int .u64 (IntKind.u64.wrap (t122)), .int .i64 t123] 25 (0, 0))) := ⟨by (with_reducible repeat (first | refine blk_drewN ?_ _ | refine blk_drew ?_ | refine blk_alloc ?_ _)); refine blk_far ?_ NB124_130.out _; (with_reducible repeat (first | refine blk_drewN ?_ _ | refine blk_drew ?_ | refine blk_alloc ?_ _)); refine blk_far ?_ NB124_130.out _; (with_reducible repeat (first | refine blk_drewN ?_ _ | refine blk_drew ?_ | refine blk_alloc ?_ _)); exact BK124.out⟩
              have n2_ : Aside0 (((w33.setCell ⟨gb130, 0, none⟩ (.int .u64 t138)).setCell ⟨gb130, 1, none⟩ (.int .i64 t139)).heap[gb129]? = some (.cells #[.int .u64 t126, .int .i64 t127] 25 (0, 0))) := ⟨by (with_reducible repeat (first | refine blk_drewN ?_ _ | refine blk_drew ?_ | refine blk_alloc ?_ _)); refine blk_far ?_ NB129_130.out _; (with_reducible repeat (first | refine blk_drewN ?_ _ | refine blk_drew ?_ | refine blk_alloc ?_ _)); refine blk_far ?_ NB129_130.out _; (with_reducible repeat (first | refine blk_drewN ?_ _ | refine blk_drew ?_ | refine blk_alloc ?_ _)); exact BK129.out⟩
              have n3_ : Aside0 (((w33.setCell ⟨gb130, 0, none⟩ (.int .u64 t138)).setCell ⟨gb130, 1, none⟩ (.int .i64 t139)).heap[gb130]? = some (.cells #[.int .u64 t138, .int .i64 t139] 25 (0, 0))) := ⟨by (with_reducible repeat (first | refine blk_drewN ?_ _ | refine blk_drew ?_ | refine blk_alloc ?_ _)); refine blk_put (cs := #[.int .u64 t138, .int .i64 x131001_1]) ?_ 1 _ rfl; (with_reducible repeat (first | refine blk_drewN ?_ _ | refine blk_drew ?_ | refine blk_alloc ?_ _)); refine blk_put (cs := #[.int .u64 x131000_1, .int .i64 x131001_1]) ?_ 0 _ rfl; (with_reducible repeat (first | refine blk_drewN ?_ _ | refine blk_drew ?_ | refine blk_alloc ?_ _)); exact BK130.out⟩
              have n4_ : Aside0 (Below w.heap.size w ((w33.setCell ⟨gb130, 0, none⟩ (.int .u64 t138)).setCell ⟨gb130, 1, none⟩ (.int .i64 t139))) := ⟨by repeat (first | (with_reducible first | exact HB.out | apply below_alloc | apply pw_below_drewN | apply below_drew1 | refine below_set ?_ GE124.out | refine below_set ?_ GE129.out | refine below_set ?_ GE130.out) | exact HB.out)⟩
              (try clear HO_27)
              (try clear BK124)
              (try clear BK129)
              (try clear BK130)
              (try clear HB)
              generalize ((w33.setCell ⟨gb130, 0, none⟩ (.int .u64 t138)).setCell ⟨gb130, 1, none⟩ (.int .i64 t139)) = w36 at n0_ n1_ n2_ n3_ n4_ ⊢
              have HO_27 := n0_
              have BK124 := n1_
              have BK129 := n2_
              have BK130 := n3_
              have HB := n4_
              clear n0_ n1_ n2_ n3_ n4_
              have n0_ := Aside0.mk (Kd.R_drew HO_27.out)
              have n1_ := Aside0.mk (blk_drew BK124.out)
              have n2_ := Aside0.mk (blk_drew BK129.out)
              have n3_ := Aside0.mk (blk_drew BK130.out)
              have n4_ := Aside0.mk (below_drew1 HB.out)
              clear HO_27
              clear BK124
              clear BK129
              clear BK130
              clear HB
              have HO_27 := n0_
              have BK124 := n1_
              have BK129 := n2_
              have BK130 := n3_
              have HB := n4_
              clear n0_ n1_ n2_ n3_ n4_
              refine start_ (n := 7) (S := fun w' => w'.cell? ⟨gb124, 0, none⟩ = some (.int .u64 (IntKind.u64.wrap (t122))) ∧ w'.cell? ⟨gb124, 1, none⟩ = some (.int .i64 t123)) (ds := []) #[false, false, false, false, false, false, false] (by kernel_rfl) rfl rfl ⟨(blk_cell BK124.out 0).trans rfl, (blk_cell BK124.out 1).trans rfl⟩ (fun hHeld => ?_)
              generalize w36.drew = w37 at HO_27 BK124 BK129 BK130 HB hHeld ⊢
              refine pure_ (i := 0) (N := some 37) (v := ?_) (a' := ?_) #[true, false, false, false, false, false, false] rfl rfl (by kernel_rfl) (fun _ _ _ h => h) (Or.inl ⟨by rfl, ?_⟩) ?_ ?_
              rotate_left
              · intro w'
                go_simp
                with_reducible rfl
              rotate_left
              · simp only [Act.put, List.setIfInBounds_toArray, List.set_cons_zero, List.set_cons_succ, i64_w, i32_w]
                rfl
              refine pure_ (i := 1) (N := some 38) (v := ?_) (a' := ?_) #[true, true, false, false, false, false, false] rfl rfl (by kernel_rfl) (fun _ _ _ h => h) (Or.inl ⟨by rfl, ?_⟩) ?_ ?_
              rotate_left
              · intro w'
                go_simp
                with_reducible rfl
              rotate_left
              · simp only [Act.put, List.setIfInBounds_toArray, List.set_cons_zero, List.set_cons_succ, i64_w, i32_w]
                rfl
              refine take_ (i := 2) (N := some 39) (v := ?_) (a' := ?_) #[true, true, true, false, false, false, false] rfl rfl (by kernel_rfl) (fun _ _ _ h => h) (Or.inl ⟨by rfl, ?_⟩) hHeld ?_ ?_
              rotate_left
              · rintro w' ⟨s0, s1⟩
                go_simp
                with_reducible rfl
              rotate_left
              · simp only [Act.put, List.setIfInBounds_toArray, List.set_cons_zero, List.set_cons_succ, i64_w, i32_w]
                rfl
              refine take_ (i := 4) (N := some 41) (v := ?_) (a' := ?_) #[true, true, true, false, true, false, false] rfl rfl (by kernel_rfl) (fun _ _ _ h => h) (Or.inl ⟨by rfl, ?_⟩) hHeld ?_ ?_
              rotate_left
              · rintro w' ⟨s0, s1⟩
                go_simp
                with_reducible rfl
              rotate_left
              · simp only [Act.put, List.setIfInBounds_toArray, List.set_cons_zero, List.set_cons_succ, i64_w, i32_w]
                rfl
              refine one_ (i := 3) (N := some 40) #[true, true, true, true, true, false, false] rfl rfl (by kernel_rfl) (by decide) (fun K hK => ?_)
              refine goes_ Tryd.func16 (by kernel_rfl) rfl #[.int .i64 (rd t131 x29_1), .int .i64 t123] (by rfl) rfl rfl (by (try simp only [List.map_toArray, List.map_cons, List.map_nil]); first | done | rfl | (simp only [List.length_drop, List.length_take]; rfl)) ?_
              with_reducible refine (label_Of.calls (rd t131 x29_1) t123 t140 t141 _ A28.out).mono ?_
              rintro e w38 ⟨rfl, hb⟩
              refine ⟨_, rfl, ?_⟩
              have n0_ := Aside0.mk (Kd.R_below (by (with_reducible repeat (first | apply Kd.R_alloc | apply Kd.R_drewN | apply Kd.R_drew)); exact HO_27.out) hb)
              have n1_ := Aside0.mk (blk_below (g := gb124) (o := .cells #[.int .u64 (IntKind.u64.wrap (t122)), .int .i64 t123] 25 (0, 0)) (by (with_reducible repeat (first | refine blk_drewN ?_ _ | refine blk_drew ?_ | refine blk_alloc ?_ _)); exact BK124.out) hb)
              have n2_ := Aside0.mk (blk_below (g := gb129) (o := .cells #[.int .u64 t126, .int .i64 t127] 25 (0, 0)) (by (with_reducible repeat (first | refine blk_drewN ?_ _ | refine blk_drew ?_ | refine blk_alloc ?_ _)); exact BK129.out) hb)
              have n3_ := Aside0.mk (blk_below (g := gb130) (o := .cells #[.int .u64 t138, .int .i64 t139] 25 (0, 0)) (by (with_reducible repeat (first | refine blk_drewN ?_ _ | refine blk_drew ?_ | refine blk_alloc ?_ _)); exact BK130.out) hb)
              have n4_ := Aside0.mk (below_step (by repeat (first | (with_reducible first | exact HB.out | apply below_alloc | apply pw_below_drewN | apply below_drew1 | refine below_set ?_ GE124.out | refine below_set ?_ GE129.out | refine below_set ?_ GE130.out) | exact HB.out)) hb)
              clear HO_27
              clear BK124
              clear BK129
              clear BK130
              clear HB
              have HO_27 := n0_
              have BK124 := n1_
              have BK129 := n2_
              have BK130 := n3_
              have HB := n4_
              clear n0_ n1_ n2_ n3_ n4_
              (try clear hb)
              (try clear hb2)
              (try clear hk)
              (try clear hi)
              refine hK.out _ _ ⟨(blk_cell BK124.out 0).trans rfl, (blk_cell BK124.out 1).trans rfl⟩ (fun hHeld => ?_)
              clear hK K
              refine norm_ (a' := ?_) ?_ ?_
              rotate_left
              · show Act.put _ (some 40) _ = _
                simp only [Act.put, List.setIfInBounds_toArray, List.set_cons_zero, List.set_cons_succ, i64_w, i32_w]
                rfl
              refine one_ (i := 5) (N := some 42) #[true, true, true, true, true, true, false] rfl rfl (by kernel_rfl) (by decide) (fun K hK => ?_)
              refine goes_ Tryd.func12 (by kernel_rfl) rfl #[.agg #[.int .u64 t140, .int .i64 t141], .agg #[.int .u64 (IntKind.u64.wrap (t122)), .int .i64 t123]] (by rfl) rfl rfl (by (try simp only [List.map_toArray, List.map_cons, List.map_nil]); first | done | rfl | (simp only [List.length_drop, List.length_take]; rfl)) ?_
              with_reducible refine (label_Below.calls t140 t141 (IntKind.u64.wrap (t122)) t123 true _ A29.out).mono ?_
              rintro e w39 ⟨rfl, hb⟩
              refine ⟨_, rfl, ?_⟩
              have n0_ := Aside0.mk (Kd.R_below (by (with_reducible repeat (first | apply Kd.R_alloc | apply Kd.R_drewN | apply Kd.R_drew)); exact HO_27.out) hb)
              have n1_ := Aside0.mk (blk_below (g := gb124) (o := .cells #[.int .u64 (IntKind.u64.wrap (t122)), .int .i64 t123] 25 (0, 0)) (by (with_reducible repeat (first | refine blk_drewN ?_ _ | refine blk_drew ?_ | refine blk_alloc ?_ _)); exact BK124.out) hb)
              have n2_ := Aside0.mk (blk_below (g := gb129) (o := .cells #[.int .u64 t126, .int .i64 t127] 25 (0, 0)) (by (with_reducible repeat (first | refine blk_drewN ?_ _ | refine blk_drew ?_ | refine blk_alloc ?_ _)); exact BK129.out) hb)
              have n3_ := Aside0.mk (blk_below (g := gb130) (o := .cells #[.int .u64 t138, .int .i64 t139] 25 (0, 0)) (by (with_reducible repeat (first | refine blk_drewN ?_ _ | refine blk_drew ?_ | refine blk_alloc ?_ _)); exact BK130.out) hb)
              have n4_ := Aside0.mk (below_step (by repeat (first | (with_reducible first | exact HB.out | apply below_alloc | apply pw_below_drewN | apply below_drew1 | refine below_set ?_ GE124.out | refine below_set ?_ GE129.out | refine below_set ?_ GE130.out) | exact HB.out)) hb)
              clear HO_27
              clear BK124
              clear BK129
              clear BK130
              clear HB
              have HO_27 := n0_
              have BK124 := n1_
              have BK129 := n2_
              have BK130 := n3_
              have HB := n4_
              clear n0_ n1_ n2_ n3_ n4_
              (try clear hb)
              (try clear hb2)
              (try clear hk)
              (try clear hi)
              refine hK.out _ _ ⟨(blk_cell BK124.out 0).trans rfl, (blk_cell BK124.out 1).trans rfl⟩ (fun hHeld => ?_)
              clear hK K
              refine norm_ (a' := ?_) ?_ ?_
              rotate_left
              · show Act.put _ (some 42) _ = _
                simp only [Act.put, List.setIfInBounds_toArray, List.set_cons_zero, List.set_cons_succ, i64_w, i32_w]
                rfl
              refine pure_ (i := 6) (N := some 43) (v := ?_) (a' := ?_) #[true, true, true, true, true, true, true] rfl rfl (by kernel_rfl) (fun _ _ _ h => h) (Or.inl ⟨by rfl, ?_⟩) ?_ ?_
              rotate_left
              · intro w'
                go_simp
                with_reducible rfl
              rotate_left
              · simp only [Act.put, List.setIfInBounds_toArray, List.set_cons_zero, List.set_cons_succ, i64_w, i32_w]
                rfl
              refine done_ (by kernel_rfl) ?_
              try go_wp2
              go_roundg k1
              case measure => have := HK1.out; omega
              case rel => exact ⟨(wrap64 (x29_1 + 1)), (t138), (t139), (by first | rfl | (simp; done) | (simp [*]; done)), H', ⟨by have := HK1.out; omega⟩, ⟨by (with_reducible repeat (first | apply Kd.R_alloc | apply Kd.R_drewN | apply Kd.R_drew)); exact HO_27.out⟩, ⟨by (with_reducible repeat (first | refine blk_drewN ?_ _ | refine blk_drew ?_ | refine blk_alloc ?_ _)); exact BK124.out⟩, ⟨by (with_reducible repeat (first | refine blk_drewN ?_ _ | refine blk_drew ?_ | refine blk_alloc ?_ _)); exact BK129.out⟩, ⟨by (with_reducible repeat (first | refine blk_drewN ?_ _ | refine blk_drew ?_ | refine blk_alloc ?_ _)); exact BK130.out⟩, ⟨by repeat (first | (with_reducible first | exact HB.out | apply below_alloc | apply pw_below_drewN | apply below_drew1 | refine below_set ?_ GE124.out | refine below_set ?_ GE129.out | refine below_set ?_ GE130.out) | exact HB.out)⟩⟩
            · replace c30 := Bool.eq_false_iff.mpr c30
              subst c30
              have H1 : (some false) = some r := by rw [if_neg (show ¬ (false = true) by decide)] at H; exact H
              clear H
              have H := H1
              clear H1
              obtain rfl := Option.some.inj H
              have p135 : 0 ≤ (x29_1 : Int) := of_decide_eq_true (by first | (with_reducible assumption) | assumption)
              have q135 : x29_1 < (t131.length : Int) := of_decide_eq_true (by first | (with_reducible assumption) | assumption)
              obtain ⟨ad135, e135, hx135_0⟩ := Kd.at_int (Kd.R_reads' HO_27.out).2.2 x29_1 p135 q135
              cases e135
              replace p135 := eq_true p135
              replace q135 := eq_true q135
              try go_wp2
              have n0_ := Aside0.mk (Kd.R_drew HO_27.out)
              have n1_ := Aside0.mk (blk_drew BK124.out)
              have n2_ := Aside0.mk (blk_drew BK129.out)
              have n3_ := Aside0.mk (blk_drew BK130.out)
              have n4_ := Aside0.mk (below_drew1 HB.out)
              clear HO_27
              clear BK124
              clear BK129
              clear BK130
              clear HB
              have HO_27 := n0_
              have BK124 := n1_
              have BK129 := n2_
              have BK130 := n3_
              have HB := n4_
              clear n0_ n1_ n2_ n3_ n4_
              refine start_ (n := 5) (S := fun w' => w'.cell? ⟨gb130, 0, none⟩ = some (.int .u64 x131000_1) ∧ w'.cell? ⟨gb130, 1, none⟩ = some (.int .i64 x131001_1)) (ds := [4]) #[false, false, false, false, false] (by kernel_rfl) rfl rfl ⟨(blk_cell BK130.out 0).trans rfl, (blk_cell BK130.out 1).trans rfl⟩ (fun hHeld => ?_)
              generalize wr.drew = w40 at HO_27 BK124 BK129 BK130 HB hHeld ⊢
              refine pure_ (i := 1) (N := some 34) (v := ?_) (a' := ?_) #[false, true, false, false, false] rfl rfl (by kernel_rfl) (fun _ _ _ h => h) (Or.inl ⟨by rfl, ?_⟩) ?_ ?_
              rotate_left
              · intro w'
                go_simp
                with_reducible rfl
              rotate_left
              · simp only [Act.put, List.setIfInBounds_toArray, List.set_cons_zero, List.set_cons_succ, i64_w, i32_w]
                rfl
              refine take_ (i := 0) (N := some 33) (v := ?_) (a' := ?_) #[true, true, false, false, false] rfl rfl (by kernel_rfl) (fun _ _ _ h => h) (Or.inl ⟨by rfl, ?_⟩) hHeld ?_ ?_
              rotate_left
              · rintro w' ⟨s0, s1⟩
                go_simp
                with_reducible rfl
              rotate_left
              · simp only [Act.put, List.setIfInBounds_toArray, List.set_cons_zero, List.set_cons_succ, i64_w, i32_w]
                rfl
              refine one_ (i := 2) (N := some 35) #[true, true, true, false, false] rfl rfl (by kernel_rfl) (by decide) (fun K hK => ?_)
              refine goes_ Tryd.func16 (by kernel_rfl) rfl #[.int .i64 (rd t131 x29_1), .int .i64 0] (by rfl) rfl rfl (by (try simp only [List.map_toArray, List.map_cons, List.map_nil]); first | done | rfl | (simp only [List.length_drop, List.length_take]; rfl)) ?_
              with_reducible refine (label_Of.calls (rd t131 x29_1) 0 t136 t137 _ A26.out).mono ?_
              rintro e w41 ⟨rfl, hb⟩
              refine ⟨_, rfl, ?_⟩
              have n0_ := Aside0.mk (Kd.R_below (by (with_reducible repeat (first | apply Kd.R_alloc | apply Kd.R_drewN | apply Kd.R_drew)); exact HO_27.out) hb)
              have n1_ := Aside0.mk (blk_below (g := gb124) (o := .cells #[.int .u64 (IntKind.u64.wrap (t122)), .int .i64 t123] 25 (0, 0)) (by (with_reducible repeat (first | refine blk_drewN ?_ _ | refine blk_drew ?_ | refine blk_alloc ?_ _)); exact BK124.out) hb)
              have n2_ := Aside0.mk (blk_below (g := gb129) (o := .cells #[.int .u64 t126, .int .i64 t127] 25 (0, 0)) (by (with_reducible repeat (first | refine blk_drewN ?_ _ | refine blk_drew ?_ | refine blk_alloc ?_ _)); exact BK129.out) hb)
              have n3_ := Aside0.mk (blk_below (g := gb130) (o := .cells #[.int .u64 x131000_1, .int .i64 x131001_1] 25 (0, 0)) (by (with_reducible repeat (first | refine blk_drewN ?_ _ | refine blk_drew ?_ | refine blk_alloc ?_ _)); exact BK130.out) hb)
              have n4_ := Aside0.mk (below_step (by repeat (first | (with_reducible first | exact HB.out | apply below_alloc | apply pw_below_drewN | apply below_drew1 | refine below_set ?_ GE124.out | refine below_set ?_ GE129.out | refine below_set ?_ GE130.out) | exact HB.out)) hb)
              clear HO_27
              clear BK124
              clear BK129
              clear BK130
              clear HB
              have HO_27 := n0_
              have BK124 := n1_
              have BK129 := n2_
              have BK130 := n3_
              have HB := n4_
              clear n0_ n1_ n2_ n3_ n4_
              (try clear hb)
              (try clear hb2)
              (try clear hk)
              (try clear hi)
              refine hK.out _ _ ⟨(blk_cell BK130.out 0).trans rfl, (blk_cell BK130.out 1).trans rfl⟩ (fun hHeld => ?_)
              clear hK K
              refine norm_ (a' := ?_) ?_ ?_
              rotate_left
              · show Act.put _ (some 35) _ = _
                simp only [Act.put, List.setIfInBounds_toArray, List.set_cons_zero, List.set_cons_succ, i64_w, i32_w]
                rfl
              refine one_ (i := 3) (N := some 36) #[true, true, true, true, false] rfl rfl (by kernel_rfl) (by decide) (fun K hK => ?_)
              refine goes_ Tryd.func9 (by kernel_rfl) rfl #[.agg #[.int .u64 x131000_1, .int .i64 x131001_1], .agg #[.int .u64 t136, .int .i64 t137]] (by rfl) rfl rfl (by (try simp only [List.map_toArray, List.map_cons, List.map_nil]); first | done | rfl | (simp only [List.length_drop, List.length_take]; rfl)) ?_
              with_reducible refine (label_Join.calls x131000_1 x131001_1 t136 t137 t138 t139 _ A27.out).mono ?_
              rintro e w42 ⟨rfl, hb⟩
              refine ⟨_, rfl, ?_⟩
              have n0_ := Aside0.mk (Kd.R_below (by (with_reducible repeat (first | apply Kd.R_alloc | apply Kd.R_drewN | apply Kd.R_drew)); exact HO_27.out) hb)
              have n1_ := Aside0.mk (blk_below (g := gb124) (o := .cells #[.int .u64 (IntKind.u64.wrap (t122)), .int .i64 t123] 25 (0, 0)) (by (with_reducible repeat (first | refine blk_drewN ?_ _ | refine blk_drew ?_ | refine blk_alloc ?_ _)); exact BK124.out) hb)
              have n2_ := Aside0.mk (blk_below (g := gb129) (o := .cells #[.int .u64 t126, .int .i64 t127] 25 (0, 0)) (by (with_reducible repeat (first | refine blk_drewN ?_ _ | refine blk_drew ?_ | refine blk_alloc ?_ _)); exact BK129.out) hb)
              have n3_ := Aside0.mk (blk_below (g := gb130) (o := .cells #[.int .u64 x131000_1, .int .i64 x131001_1] 25 (0, 0)) (by (with_reducible repeat (first | refine blk_drewN ?_ _ | refine blk_drew ?_ | refine blk_alloc ?_ _)); exact BK130.out) hb)
              have n4_ := Aside0.mk (below_step (by repeat (first | (with_reducible first | exact HB.out | apply below_alloc | apply pw_below_drewN | apply below_drew1 | refine below_set ?_ GE124.out | refine below_set ?_ GE129.out | refine below_set ?_ GE130.out) | exact HB.out)) hb)
              clear HO_27
              clear BK124
              clear BK129
              clear BK130
              clear HB
              have HO_27 := n0_
              have BK124 := n1_
              have BK129 := n2_
              have BK130 := n3_
              have HB := n4_
              clear n0_ n1_ n2_ n3_ n4_
              (try clear hb)
              (try clear hb2)
              (try clear hk)
              (try clear hi)
              refine hK.out _ _ ⟨(blk_cell BK130.out 0).trans rfl, (blk_cell BK130.out 1).trans rfl⟩ (fun hHeld => ?_)
              clear hK K
              refine norm_ (a' := ?_) ?_ ?_
              rotate_left
              · show Act.put _ (some 36) _ = _
                simp only [Act.put, List.setIfInBounds_toArray, List.set_cons_zero, List.set_cons_succ, i64_w, i32_w]
                rfl
              refine last_ (i := 4) (N := none) #[true, true, true, true, true] rfl rfl (by kernel_rfl) (by decide) (fun K hK => ?_)
              have hs43 : w42.cell? ⟨gb130, 0, none⟩ = some (.int .u64 x131000_1) := (blk_cell BK130.out 0).trans rfl
              have hfs43 := blk_frozen BK130.out 0
              have hns43_0 := NB124_130.out
              have hns43_1 := NB129_130.out
              have hms43_0 := NB130_124.out
              have hms43_1 := NB130_129.out
              have hs44 : w42.cell? ⟨gb130, 1, none⟩ = some (.int .i64 x131001_1) := (blk_cell BK130.out 1).trans rfl
              have hfs44 := blk_frozen BK130.out 1
              have hns44_0 := NB124_130.out
              have hns44_1 := NB129_130.out
              have hms44_0 := NB130_124.out
              have hms44_1 := NB130_129.out
              refine skip_ (w1 := ?_) (by rfl) rfl ?_ ?_
              rotate_left
              · go_simp
                rfl
              refine hK.out _ _ ?_
              clear hK K
              refine done_ (by kernel_rfl) ?_
              try go_wp2
              have n0_ : Aside0 (Kd.R (Kd.int .i64) 3 ((w42.setCell ⟨gb130, 0, none⟩ (.int .u64 t138)).setCell ⟨gb130, 1, none⟩ (.int .i64 t139)) w.heap.size (fun _ => True) (.slice (some ad135) t131.length co22) t131) := ⟨by (with_reducible repeat (first | apply Kd.R_alloc | apply Kd.R_drewN | apply Kd.R_drew)); exact Kd.R_mono (Kd.R_far (p := ⟨gb130, 1, none⟩) (Kd.R_far (p := ⟨gb130, 0, none⟩) (Kd.R_types HO_27.out BK130.out (by decide)) (fun _ hk => hk.2) (.int .u64 t138)) (fun _ hk => hk.2) (.int .i64 t139)) (fun _ hk => trivial)⟩
              have n1_ : Aside0 (((w42.setCell ⟨gb130, 0, none⟩ (.int .u64 t138)).setCell ⟨gb130, 1, none⟩ (.int .i64 t139)).heap[gb124]? = some (.cells #[.int .u64 (IntKind.u64.wrap (t122)), .int .i64 t123] 25 (0, 0))) := ⟨by (with_reducible repeat (first | refine blk_drewN ?_ _ | refine blk_drew ?_ | refine blk_alloc ?_ _)); refine blk_far ?_ NB124_130.out _; (with_reducible repeat (first | refine blk_drewN ?_ _ | refine blk_drew ?_ | refine blk_alloc ?_ _)); refine blk_far ?_ NB124_130.out _; (with_reducible repeat (first | refine blk_drewN ?_ _ | refine blk_drew ?_ | refine blk_alloc ?_ _)); exact BK124.out⟩
              have n2_ : Aside0 (((w42.setCell ⟨gb130, 0, none⟩ (.int .u64 t138)).setCell ⟨gb130, 1, none⟩ (.int .i64 t139)).heap[gb129]? = some (.cells #[.int .u64 t126, .int .i64 t127] 25 (0, 0))) := ⟨by (with_reducible repeat (first | refine blk_drewN ?_ _ | refine blk_drew ?_ | refine blk_alloc ?_ _)); refine blk_far ?_ NB129_130.out _; (with_reducible repeat (first | refine blk_drewN ?_ _ | refine blk_drew ?_ | refine blk_alloc ?_ _)); refine blk_far ?_ NB129_130.out _; (with_reducible repeat (first | refine blk_drewN ?_ _ | refine blk_drew ?_ | refine blk_alloc ?_ _)); exact BK129.out⟩
              have n3_ : Aside0 (((w42.setCell ⟨gb130, 0, none⟩ (.int .u64 t138)).setCell ⟨gb130, 1, none⟩ (.int .i64 t139)).heap[gb130]? = some (.cells #[.int .u64 t138, .int .i64 t139] 25 (0, 0))) := ⟨by (with_reducible repeat (first | refine blk_drewN ?_ _ | refine blk_drew ?_ | refine blk_alloc ?_ _)); refine blk_put (cs := #[.int .u64 t138, .int .i64 x131001_1]) ?_ 1 _ rfl; (with_reducible repeat (first | refine blk_drewN ?_ _ | refine blk_drew ?_ | refine blk_alloc ?_ _)); refine blk_put (cs := #[.int .u64 x131000_1, .int .i64 x131001_1]) ?_ 0 _ rfl; (with_reducible repeat (first | refine blk_drewN ?_ _ | refine blk_drew ?_ | refine blk_alloc ?_ _)); exact BK130.out⟩
              have n4_ : Aside0 (Below w.heap.size w ((w42.setCell ⟨gb130, 0, none⟩ (.int .u64 t138)).setCell ⟨gb130, 1, none⟩ (.int .i64 t139))) := ⟨by repeat (first | (with_reducible first | exact HB.out | apply below_alloc | apply pw_below_drewN | apply below_drew1 | refine below_set ?_ GE124.out | refine below_set ?_ GE129.out | refine below_set ?_ GE130.out) | exact HB.out)⟩
              (try clear HO_27)
              (try clear BK124)
              (try clear BK129)
              (try clear BK130)
              (try clear HB)
              generalize ((w42.setCell ⟨gb130, 0, none⟩ (.int .u64 t138)).setCell ⟨gb130, 1, none⟩ (.int .i64 t139)) = w45 at n0_ n1_ n2_ n3_ n4_ ⊢
              have HO_27 := n0_
              have BK124 := n1_
              have BK129 := n2_
              have BK130 := n3_
              have HB := n4_
              clear n0_ n1_ n2_ n3_ n4_
              have n0_ := Aside0.mk (Kd.R_drew HO_27.out)
              have n1_ := Aside0.mk (blk_drew BK124.out)
              have n2_ := Aside0.mk (blk_drew BK129.out)
              have n3_ := Aside0.mk (blk_drew BK130.out)
              have n4_ := Aside0.mk (below_drew1 HB.out)
              clear HO_27
              clear BK124
              clear BK129
              clear BK130
              clear HB
              have HO_27 := n0_
              have BK124 := n1_
              have BK129 := n2_
              have BK130 := n3_
              have HB := n4_
              clear n0_ n1_ n2_ n3_ n4_
              refine start_ (n := 7) (S := fun w' => w'.cell? ⟨gb124, 0, none⟩ = some (.int .u64 (IntKind.u64.wrap (t122))) ∧ w'.cell? ⟨gb124, 1, none⟩ = some (.int .i64 t123)) (ds := []) #[false, false, false, false, false, false, false] (by kernel_rfl) rfl rfl ⟨(blk_cell BK124.out 0).trans rfl, (blk_cell BK124.out 1).trans rfl⟩ (fun hHeld => ?_)
              generalize w45.drew = w46 at HO_27 BK124 BK129 BK130 HB hHeld ⊢
              refine pure_ (i := 0) (N := some 37) (v := ?_) (a' := ?_) #[true, false, false, false, false, false, false] rfl rfl (by kernel_rfl) (fun _ _ _ h => h) (Or.inl ⟨by rfl, ?_⟩) ?_ ?_
              rotate_left
              · intro w'
                go_simp
                with_reducible rfl
              rotate_left
              · simp only [Act.put, List.setIfInBounds_toArray, List.set_cons_zero, List.set_cons_succ, i64_w, i32_w]
                rfl
              refine pure_ (i := 1) (N := some 38) (v := ?_) (a' := ?_) #[true, true, false, false, false, false, false] rfl rfl (by kernel_rfl) (fun _ _ _ h => h) (Or.inl ⟨by rfl, ?_⟩) ?_ ?_
              rotate_left
              · intro w'
                go_simp
                with_reducible rfl
              rotate_left
              · simp only [Act.put, List.setIfInBounds_toArray, List.set_cons_zero, List.set_cons_succ, i64_w, i32_w]
                rfl
              refine take_ (i := 2) (N := some 39) (v := ?_) (a' := ?_) #[true, true, true, false, false, false, false] rfl rfl (by kernel_rfl) (fun _ _ _ h => h) (Or.inl ⟨by rfl, ?_⟩) hHeld ?_ ?_
              rotate_left
              · rintro w' ⟨s0, s1⟩
                go_simp
                with_reducible rfl
              rotate_left
              · simp only [Act.put, List.setIfInBounds_toArray, List.set_cons_zero, List.set_cons_succ, i64_w, i32_w]
                rfl
              refine take_ (i := 4) (N := some 41) (v := ?_) (a' := ?_) #[true, true, true, false, true, false, false] rfl rfl (by kernel_rfl) (fun _ _ _ h => h) (Or.inl ⟨by rfl, ?_⟩) hHeld ?_ ?_
              rotate_left
              · rintro w' ⟨s0, s1⟩
                go_simp
                with_reducible rfl
              rotate_left
              · simp only [Act.put, List.setIfInBounds_toArray, List.set_cons_zero, List.set_cons_succ, i64_w, i32_w]
                rfl
              refine one_ (i := 3) (N := some 40) #[true, true, true, true, true, false, false] rfl rfl (by kernel_rfl) (by decide) (fun K hK => ?_)
              refine goes_ Tryd.func16 (by kernel_rfl) rfl #[.int .i64 (rd t131 x29_1), .int .i64 t123] (by rfl) rfl rfl (by (try simp only [List.map_toArray, List.map_cons, List.map_nil]); first | done | rfl | (simp only [List.length_drop, List.length_take]; rfl)) ?_
              with_reducible refine (label_Of.calls (rd t131 x29_1) t123 t140 t141 _ A28.out).mono ?_
              rintro e w47 ⟨rfl, hb⟩
              refine ⟨_, rfl, ?_⟩
              have n0_ := Aside0.mk (Kd.R_below (by (with_reducible repeat (first | apply Kd.R_alloc | apply Kd.R_drewN | apply Kd.R_drew)); exact HO_27.out) hb)
              have n1_ := Aside0.mk (blk_below (g := gb124) (o := .cells #[.int .u64 (IntKind.u64.wrap (t122)), .int .i64 t123] 25 (0, 0)) (by (with_reducible repeat (first | refine blk_drewN ?_ _ | refine blk_drew ?_ | refine blk_alloc ?_ _)); exact BK124.out) hb)
              have n2_ := Aside0.mk (blk_below (g := gb129) (o := .cells #[.int .u64 t126, .int .i64 t127] 25 (0, 0)) (by (with_reducible repeat (first | refine blk_drewN ?_ _ | refine blk_drew ?_ | refine blk_alloc ?_ _)); exact BK129.out) hb)
              have n3_ := Aside0.mk (blk_below (g := gb130) (o := .cells #[.int .u64 t138, .int .i64 t139] 25 (0, 0)) (by (with_reducible repeat (first | refine blk_drewN ?_ _ | refine blk_drew ?_ | refine blk_alloc ?_ _)); exact BK130.out) hb)
              have n4_ := Aside0.mk (below_step (by repeat (first | (with_reducible first | exact HB.out | apply below_alloc | apply pw_below_drewN | apply below_drew1 | refine below_set ?_ GE124.out | refine below_set ?_ GE129.out | refine below_set ?_ GE130.out) | exact HB.out)) hb)
              clear HO_27
              clear BK124
              clear BK129
              clear BK130
              clear HB
              have HO_27 := n0_
              have BK124 := n1_
              have BK129 := n2_
              have BK130 := n3_
              have HB := n4_
              clear n0_ n1_ n2_ n3_ n4_
              (try clear hb)
              (try clear hb2)
              (try clear hk)
              (try clear hi)
              refine hK.out _ _ ⟨(blk_cell BK124.out 0).trans rfl, (blk_cell BK124.out 1).trans rfl⟩ (fun hHeld => ?_)
              clear hK K
              refine norm_ (a' := ?_) ?_ ?_
              rotate_left
              · show Act.put _ (some 40) _ = _
                simp only [Act.put, List.setIfInBounds_toArray, List.set_cons_zero, List.set_cons_succ, i64_w, i32_w]
                rfl
              refine one_ (i := 5) (N := some 42) #[true, true, true, true, true, true, false] rfl rfl (by kernel_rfl) (by decide) (fun K hK => ?_)
              refine goes_ Tryd.func12 (by kernel_rfl) rfl #[.agg #[.int .u64 t140, .int .i64 t141], .agg #[.int .u64 (IntKind.u64.wrap (t122)), .int .i64 t123]] (by rfl) rfl rfl (by (try simp only [List.map_toArray, List.map_cons, List.map_nil]); first | done | rfl | (simp only [List.length_drop, List.length_take]; rfl)) ?_
              with_reducible refine (label_Below.calls t140 t141 (IntKind.u64.wrap (t122)) t123 false _ A29.out).mono ?_
              rintro e w48 ⟨rfl, hb⟩
              refine ⟨_, rfl, ?_⟩
              have n0_ := Aside0.mk (Kd.R_below (by (with_reducible repeat (first | apply Kd.R_alloc | apply Kd.R_drewN | apply Kd.R_drew)); exact HO_27.out) hb)
              have n1_ := Aside0.mk (blk_below (g := gb124) (o := .cells #[.int .u64 (IntKind.u64.wrap (t122)), .int .i64 t123] 25 (0, 0)) (by (with_reducible repeat (first | refine blk_drewN ?_ _ | refine blk_drew ?_ | refine blk_alloc ?_ _)); exact BK124.out) hb)
              have n2_ := Aside0.mk (blk_below (g := gb129) (o := .cells #[.int .u64 t126, .int .i64 t127] 25 (0, 0)) (by (with_reducible repeat (first | refine blk_drewN ?_ _ | refine blk_drew ?_ | refine blk_alloc ?_ _)); exact BK129.out) hb)
              have n3_ := Aside0.mk (blk_below (g := gb130) (o := .cells #[.int .u64 t138, .int .i64 t139] 25 (0, 0)) (by (with_reducible repeat (first | refine blk_drewN ?_ _ | refine blk_drew ?_ | refine blk_alloc ?_ _)); exact BK130.out) hb)
              have n4_ := Aside0.mk (below_step (by repeat (first | (with_reducible first | exact HB.out | apply below_alloc | apply pw_below_drewN | apply below_drew1 | refine below_set ?_ GE124.out | refine below_set ?_ GE129.out | refine below_set ?_ GE130.out) | exact HB.out)) hb)
              clear HO_27
              clear BK124
              clear BK129
              clear BK130
              clear HB
              have HO_27 := n0_
              have BK124 := n1_
              have BK129 := n2_
              have BK130 := n3_
              have HB := n4_
              clear n0_ n1_ n2_ n3_ n4_
              (try clear hb)
              (try clear hb2)
              (try clear hk)
              (try clear hi)
              refine hK.out _ _ ⟨(blk_cell BK124.out 0).trans rfl, (blk_cell BK124.out 1).trans rfl⟩ (fun hHeld => ?_)
              clear hK K
              refine norm_ (a' := ?_) ?_ ?_
              rotate_left
              · show Act.put _ (some 42) _ = _
                simp only [Act.put, List.setIfInBounds_toArray, List.set_cons_zero, List.set_cons_succ, i64_w, i32_w]
                rfl
              refine pure_ (i := 6) (N := some 43) (v := ?_) (a' := ?_) #[true, true, true, true, true, true, true] rfl rfl (by kernel_rfl) (fun _ _ _ h => h) (Or.inl ⟨by rfl, ?_⟩) ?_ ?_
              rotate_left
              · intro w'
                go_simp
                with_reducible rfl
              rotate_left
              · simp only [Act.put, List.setIfInBounds_toArray, List.set_cons_zero, List.set_cons_succ, i64_w, i32_w]
                rfl
              refine done_ (by kernel_rfl) ?_
              try go_wp2
              go_ret
              exact ⟨by first | rfl | (simp [errW_none, errW_some] <;> rfl) | (simp [*, errW_none, errW_some] <;> rfl), by repeat (first | (with_reducible first | exact HB.out | apply below_alloc | apply pw_below_drewN | apply below_drew1 | refine below_set ?_ GE124.out | refine below_set ?_ GE129.out | refine below_set ?_ GE130.out) | exact HB.out)⟩
          · rw [if_neg c25] at H
            exact absurd H (by simp)
        · rw [if_neg c24] at H
          exact absurd H (by simp)
      · rw [if_neg c23] at H
        have c23b0 : decide (x29_1 < (t131.length : Int)) = false := decide_eq_false c23
        clear c23
        replace H := Option.bind_eq_some_iff.mp H
        obtain ⟨t134, A490, H⟩ := H
        replace H : (if t134 = true then (if t128 = 0 then (if ((IntKind.u64.wrap (t122)) == t126 && (t123 == t127)) = true then (some (x131000_1 == (IntKind.u64.wrap (t122)) && (x131001_1 == t123))) else (some false)) else (some false)) else (some false)) = some r := H
        have A49 := Aside0.mk A490
        clear A490
        by_cases c50 : t134 = true
        · subst c50
          have H1 : (if t128 = 0 then (if ((IntKind.u64.wrap (t122)) == t126 && (t123 == t127)) = true then (some (x131000_1 == (IntKind.u64.wrap (t122)) && (x131001_1 == t123))) else (some false)) else (some false)) = some r := by rw [if_pos rfl] at H; exact H
          clear H
          have H := H1
          clear H1
          by_cases c51 : t128 = 0
          · rw [if_pos c51] at H
            have c51b0 : (t128 == 0) = true := beq_iff_eq.mpr c51
            have c51b1 : (t128 != 0) = false := bne_eq_false_iff_eq.mpr c51
            clear c51
            by_cases c52 : ((IntKind.u64.wrap (t122)) == t126 && (t123 == t127)) = true
            · rw [if_pos c52] at H
              have c52b0 : ((IntKind.u64.wrap (t122)) == t126 && (t123 == t127)) = true := c52
              (try (have c52b1 : decide ((IntKind.u64.wrap (t122)) = t126 && (t123 == t127)) = true := by simpa using c52))
              (try (have c52b2 : ((IntKind.u64.wrap (t122)) == t126 && (t123 == t127)) = true := by simpa using c52))
              clear c52
              obtain rfl := Option.some.inj H
              go_wp2_with (first | ((with_reducible refine gate_callee (f := 11) rfl ?_); refine goesL_ (some 45) rfl rfl Tryd.func11 (by kernel_rfl) rfl #[] rfl (by (try simp only [List.map_toArray, List.map_cons, List.map_nil]); first | done | rfl | (simp only [List.length_drop, List.length_take]; rfl)) ?_; (with_reducible refine (pyxlaw8_known.calls  true _ A49.out).mono ?_); rintro e w53 ⟨rfl, hb⟩; refine ⟨_, rfl, ?_⟩; have n0_ := Aside0.mk (Kd.R_below (by (with_reducible repeat (first | apply Kd.R_alloc | apply Kd.R_drewN | apply Kd.R_drew)); exact HO_27.out) hb); have n1_ := Aside0.mk (blk_below (g := gb124) (o := .cells #[.int .u64 (IntKind.u64.wrap (t122)), .int .i64 t123] 25 (0, 0)) (by (with_reducible repeat (first | refine blk_drewN ?_ _ | refine blk_drew ?_ | refine blk_alloc ?_ _)); exact BK124.out) hb); have n2_ := Aside0.mk (blk_below (g := gb129) (o := .cells #[.int .u64 t126, .int .i64 t127] 25 (0, 0)) (by (with_reducible repeat (first | refine blk_drewN ?_ _ | refine blk_drew ?_ | refine blk_alloc ?_ _)); exact BK129.out) hb); have n3_ := Aside0.mk (blk_below (g := gb130) (o := .cells #[.int .u64 x131000_1, .int .i64 x131001_1] 25 (0, 0)) (by (with_reducible repeat (first | refine blk_drewN ?_ _ | refine blk_drew ?_ | refine blk_alloc ?_ _)); exact BK130.out) hb); have n4_ := Aside0.mk (below_step (by repeat (first | (with_reducible first | exact HB.out | apply below_alloc | apply pw_below_drewN | apply below_drew1 | refine below_set ?_ GE124.out | refine below_set ?_ GE129.out | refine below_set ?_ GE130.out) | exact HB.out)) hb); clear HO_27; clear BK124; clear BK129; clear BK130; clear HB; have HO_27 := n0_; have BK124 := n1_; have BK129 := n2_; have BK130 := n3_; have HB := n4_; clear n0_ n1_ n2_ n3_ n4_; (try clear hb); (try clear hb2); (try clear hk); (try clear hi); have hnb54 := NB124_129.out; have hnc54 := NB129_124.out; have hnb55 := NB124_130.out; have hnc55 := NB130_124.out; have hcz56_0 : w53.cell? ⟨gb124, 0, none⟩ = some (.int .u64 (IntKind.u64.wrap (t122))) := (blk_cell BK124.out 0).trans rfl; have hcz56_1 : w53.cell? ⟨gb124, 1, none⟩ = some (.int .i64 t123) := (blk_cell BK124.out 1).trans rfl; have hfz56_0 := blk_frozen BK124.out 0; have hfz56_1 := blk_frozen BK124.out 1; have hnb57 := NB129_130.out; have hnc57 := NB130_129.out; have hcz58_0 : w53.cell? ⟨gb129, 0, none⟩ = some (.int .u64 t126) := (blk_cell BK129.out 0).trans rfl; have hcz58_1 : w53.cell? ⟨gb129, 1, none⟩ = some (.int .i64 t127) := (blk_cell BK129.out 1).trans rfl; have hfz58_0 := blk_frozen BK129.out 0; have hfz58_1 := blk_frozen BK129.out 1; have hcz59_0 : w53.cell? ⟨gb130, 0, none⟩ = some (.int .u64 x131000_1) := (blk_cell BK130.out 0).trans rfl; have hcz59_1 : w53.cell? ⟨gb130, 1, none⟩ = some (.int .i64 x131001_1) := (blk_cell BK130.out 1).trans rfl; have hfz59_0 := blk_frozen BK130.out 0; have hfz59_1 := blk_frozen BK130.out 1))
              go_ret
              exact ⟨by first | rfl | (simp [errW_none, errW_some] <;> rfl) | (simp [*, errW_none, errW_some] <;> rfl), by repeat (first | (with_reducible first | exact HB.out | apply below_alloc | apply pw_below_drewN | apply below_drew1 | refine below_set ?_ GE124.out | refine below_set ?_ GE129.out | refine below_set ?_ GE130.out) | exact HB.out)⟩
            · rw [if_neg c52] at H
              have c52b0 : ((IntKind.u64.wrap (t122)) == t126 && (t123 == t127)) = false := by simpa using c52
              (try (have c52b1 : decide ((IntKind.u64.wrap (t122)) = t126 && (t123 == t127)) = false := by simpa using c52))
              (try (have c52b2 : ((IntKind.u64.wrap (t122)) == t126 && (t123 == t127)) = false := by simpa using c52))
              (try (have c52b3 : ¬ ((IntKind.u64.wrap (t122)) = t126 && (t123 == t127)) := by simpa using c52))
              clear c52
              obtain rfl := Option.some.inj H
              go_wp2_with (first | ((with_reducible refine gate_callee (f := 11) rfl ?_); refine goesL_ (some 45) rfl rfl Tryd.func11 (by kernel_rfl) rfl #[] rfl (by (try simp only [List.map_toArray, List.map_cons, List.map_nil]); first | done | rfl | (simp only [List.length_drop, List.length_take]; rfl)) ?_; (with_reducible refine (pyxlaw8_known.calls  true _ A49.out).mono ?_); rintro e w60 ⟨rfl, hb⟩; refine ⟨_, rfl, ?_⟩; have n0_ := Aside0.mk (Kd.R_below (by (with_reducible repeat (first | apply Kd.R_alloc | apply Kd.R_drewN | apply Kd.R_drew)); exact HO_27.out) hb); have n1_ := Aside0.mk (blk_below (g := gb124) (o := .cells #[.int .u64 (IntKind.u64.wrap (t122)), .int .i64 t123] 25 (0, 0)) (by (with_reducible repeat (first | refine blk_drewN ?_ _ | refine blk_drew ?_ | refine blk_alloc ?_ _)); exact BK124.out) hb); have n2_ := Aside0.mk (blk_below (g := gb129) (o := .cells #[.int .u64 t126, .int .i64 t127] 25 (0, 0)) (by (with_reducible repeat (first | refine blk_drewN ?_ _ | refine blk_drew ?_ | refine blk_alloc ?_ _)); exact BK129.out) hb); have n3_ := Aside0.mk (blk_below (g := gb130) (o := .cells #[.int .u64 x131000_1, .int .i64 x131001_1] 25 (0, 0)) (by (with_reducible repeat (first | refine blk_drewN ?_ _ | refine blk_drew ?_ | refine blk_alloc ?_ _)); exact BK130.out) hb); have n4_ := Aside0.mk (below_step (by repeat (first | (with_reducible first | exact HB.out | apply below_alloc | apply pw_below_drewN | apply below_drew1 | refine below_set ?_ GE124.out | refine below_set ?_ GE129.out | refine below_set ?_ GE130.out) | exact HB.out)) hb); clear HO_27; clear BK124; clear BK129; clear BK130; clear HB; have HO_27 := n0_; have BK124 := n1_; have BK129 := n2_; have BK130 := n3_; have HB := n4_; clear n0_ n1_ n2_ n3_ n4_; (try clear hb); (try clear hb2); (try clear hk); (try clear hi); have hnb61 := NB124_129.out; have hnc61 := NB129_124.out; have hnb62 := NB124_130.out; have hnc62 := NB130_124.out; have hcz63_0 : w60.cell? ⟨gb124, 0, none⟩ = some (.int .u64 (IntKind.u64.wrap (t122))) := (blk_cell BK124.out 0).trans rfl; have hcz63_1 : w60.cell? ⟨gb124, 1, none⟩ = some (.int .i64 t123) := (blk_cell BK124.out 1).trans rfl; have hfz63_0 := blk_frozen BK124.out 0; have hfz63_1 := blk_frozen BK124.out 1; have hnb64 := NB129_130.out; have hnc64 := NB130_129.out; have hcz65_0 : w60.cell? ⟨gb129, 0, none⟩ = some (.int .u64 t126) := (blk_cell BK129.out 0).trans rfl; have hcz65_1 : w60.cell? ⟨gb129, 1, none⟩ = some (.int .i64 t127) := (blk_cell BK129.out 1).trans rfl; have hfz65_0 := blk_frozen BK129.out 0; have hfz65_1 := blk_frozen BK129.out 1))
              go_ret
              exact ⟨by first | rfl | (simp [errW_none, errW_some] <;> rfl) | (simp [*, errW_none, errW_some] <;> rfl), by repeat (first | (with_reducible first | exact HB.out | apply below_alloc | apply pw_below_drewN | apply below_drew1 | refine below_set ?_ GE124.out | refine below_set ?_ GE129.out | refine below_set ?_ GE130.out) | exact HB.out)⟩
          · rw [if_neg c51] at H
            have c51b0 : (t128 == 0) = false := beq_eq_false_iff_ne.mpr c51
            have c51b1 : (t128 != 0) = true := bne_iff_ne.mpr c51
            obtain rfl := Option.some.inj H
            go_wp2_with (first | ((with_reducible refine gate_callee (f := 11) rfl ?_); refine goesL_ (some 45) rfl rfl Tryd.func11 (by kernel_rfl) rfl #[] rfl (by (try simp only [List.map_toArray, List.map_cons, List.map_nil]); first | done | rfl | (simp only [List.length_drop, List.length_take]; rfl)) ?_; (with_reducible refine (pyxlaw8_known.calls  true _ A49.out).mono ?_); rintro e w66 ⟨rfl, hb⟩; refine ⟨_, rfl, ?_⟩; have n0_ := Aside0.mk (Kd.R_below (by (with_reducible repeat (first | apply Kd.R_alloc | apply Kd.R_drewN | apply Kd.R_drew)); exact HO_27.out) hb); have n1_ := Aside0.mk (blk_below (g := gb124) (o := .cells #[.int .u64 (IntKind.u64.wrap (t122)), .int .i64 t123] 25 (0, 0)) (by (with_reducible repeat (first | refine blk_drewN ?_ _ | refine blk_drew ?_ | refine blk_alloc ?_ _)); exact BK124.out) hb); have n2_ := Aside0.mk (blk_below (g := gb129) (o := .cells #[.int .u64 t126, .int .i64 t127] 25 (0, 0)) (by (with_reducible repeat (first | refine blk_drewN ?_ _ | refine blk_drew ?_ | refine blk_alloc ?_ _)); exact BK129.out) hb); have n3_ := Aside0.mk (blk_below (g := gb130) (o := .cells #[.int .u64 x131000_1, .int .i64 x131001_1] 25 (0, 0)) (by (with_reducible repeat (first | refine blk_drewN ?_ _ | refine blk_drew ?_ | refine blk_alloc ?_ _)); exact BK130.out) hb); have n4_ := Aside0.mk (below_step (by repeat (first | (with_reducible first | exact HB.out | apply below_alloc | apply pw_below_drewN | apply below_drew1 | refine below_set ?_ GE124.out | refine below_set ?_ GE129.out | refine below_set ?_ GE130.out) | exact HB.out)) hb); clear HO_27; clear BK124; clear BK129; clear BK130; clear HB; have HO_27 := n0_; have BK124 := n1_; have BK129 := n2_; have BK130 := n3_; have HB := n4_; clear n0_ n1_ n2_ n3_ n4_; (try clear hb); (try clear hb2); (try clear hk); (try clear hi)))
            go_ret
            exact ⟨by first | rfl | (simp [errW_none, errW_some] <;> rfl) | (simp [*, errW_none, errW_some] <;> rfl), by repeat (first | (with_reducible first | exact HB.out | apply below_alloc | apply pw_below_drewN | apply below_drew1 | refine below_set ?_ GE124.out | refine below_set ?_ GE129.out | refine below_set ?_ GE130.out) | exact HB.out)⟩
        · replace c50 := Bool.eq_false_iff.mpr c50
          subst c50
          have H1 : (some false) = some r := by rw [if_neg (show ¬ (false = true) by decide)] at H; exact H
          clear H
          have H := H1
          clear H1
          obtain rfl := Option.some.inj H
          go_wp2_with (first | ((with_reducible refine gate_callee (f := 11) rfl ?_); refine goesL_ (some 45) rfl rfl Tryd.func11 (by kernel_rfl) rfl #[] rfl (by (try simp only [List.map_toArray, List.map_cons, List.map_nil]); first | done | rfl | (simp only [List.length_drop, List.length_take]; rfl)) ?_; (with_reducible refine (pyxlaw8_known.calls  false _ A49.out).mono ?_); rintro e w67 ⟨rfl, hb⟩; refine ⟨_, rfl, ?_⟩; have n0_ := Aside0.mk (Kd.R_below (by (with_reducible repeat (first | apply Kd.R_alloc | apply Kd.R_drewN | apply Kd.R_drew)); exact HO_27.out) hb); have n1_ := Aside0.mk (blk_below (g := gb124) (o := .cells #[.int .u64 (IntKind.u64.wrap (t122)), .int .i64 t123] 25 (0, 0)) (by (with_reducible repeat (first | refine blk_drewN ?_ _ | refine blk_drew ?_ | refine blk_alloc ?_ _)); exact BK124.out) hb); have n2_ := Aside0.mk (blk_below (g := gb129) (o := .cells #[.int .u64 t126, .int .i64 t127] 25 (0, 0)) (by (with_reducible repeat (first | refine blk_drewN ?_ _ | refine blk_drew ?_ | refine blk_alloc ?_ _)); exact BK129.out) hb); have n3_ := Aside0.mk (blk_below (g := gb130) (o := .cells #[.int .u64 x131000_1, .int .i64 x131001_1] 25 (0, 0)) (by (with_reducible repeat (first | refine blk_drewN ?_ _ | refine blk_drew ?_ | refine blk_alloc ?_ _)); exact BK130.out) hb); have n4_ := Aside0.mk (below_step (by repeat (first | (with_reducible first | exact HB.out | apply below_alloc | apply pw_below_drewN | apply below_drew1 | refine below_set ?_ GE124.out | refine below_set ?_ GE129.out | refine below_set ?_ GE130.out) | exact HB.out)) hb); clear HO_27; clear BK124; clear BK129; clear BK130; clear HB; have HO_27 := n0_; have BK124 := n1_; have BK129 := n2_; have BK130 := n3_; have HB := n4_; clear n0_ n1_ n2_ n3_ n4_; (try clear hb); (try clear hb2); (try clear hk); (try clear hi)))
          go_ret
          exact ⟨by first | rfl | (simp [errW_none, errW_some] <;> rfl) | (simp [*, errW_none, errW_some] <;> rfl), by repeat (first | (with_reducible first | exact HB.out | apply below_alloc | apply pw_below_drewN | apply below_drew1 | refine below_set ?_ GE124.out | refine below_set ?_ GE129.out | refine below_set ?_ GE130.out) | exact HB.out)⟩

/-- THE ONE PURE STATEMENT of pyxlaw8_LabelBack: yours. -/
def pyxlaw8_LabelBack.Pure : Prop := ∀ (a0 : Int) (a1 : Int), (Lit.int .i64 a0).wf = true → (Lit.int .i64 a1).wf = true → ∃ k, pyxlaw8_LabelBack.f k a0 a1 = some true
theorem pyxlaw8_LabelBack.walk (P : pyxlaw8_LabelBack.Pure) (a0 : Int) (a1 : Int) (w : World) (w0 : (Lit.int .i64 a0).wf = true) (w1 : (Lit.int .i64 a1).wf = true) :
    Calls Tryd.prog 5 #[.int .i64 a0, .int .i64 a1] w fun e w' => e = .returned (.bool true) ∧ Below w.heap.size w w' := by
  obtain ⟨k, h⟩ := P a0 a1 w0 w1
  refine (pyxlaw8_LabelBack.calls k a0 a1 true w h).mono ?_
  rintro e w' ⟨rfl, hd⟩
  exact ⟨rfl, hd⟩

end Go.Proofs.YthfpfogodggdmaaDoor.PLabelBack
