-- PRINTED BY print.sh 35421559b90ae4d0a3588c463048766b98c2df88dd9212a6774a882060cdf62d: not written by this session
import Derived.Test.YthfpfogodggdmaaDoorPLabelOrderx0
import Derived.Test.YthfpfogodggdmaaDoorPLabelOrderx1
namespace Go.Proofs.YthfpfogodggdmaaDoor.PLabelOrder
open Go.RowKit Go.Proofs.YthfpfogodggdmaaDoorW.PrintWords Go.Proofs.YthfpfogodggdmaaDoorW.PrintLast Go.Proofs.YthfpfogodggdmaaDoorW.PrintMore Go.Proofs.YthfpfogodggdmaaDoorW.Box
attribute [local go_sem] max2_int min2_int max_two min_two max_three min_three max_four min_four   -- for this text's walks alone
set_option linter.unusedVariables false
set_option linter.unusedSimpArgs false

attribute [local go_sem high] eqA25
/-! ### pyxhand_Pick: function 8 -/
def pyxhand_Pick.f (a0 : Int) (a1 : Int) : Option (Int) := if a1 = 0 then (none) else (if (Int.tmod a0 a1) < 0 then (some (wrap64 ((Int.tmod a0 a1) + a1))) else (some (Int.tmod a0 a1)))
set_option maxHeartbeats 8000000 in
set_option maxRecDepth 100000 in
theorem pyxhand_Pick.calls (a0 : Int) (a1 : Int) (r : Int) (w : World) (h : pyxhand_Pick.f a0 a1 = some r) :
    Calls Tryd.prog 8 #[.int .i64 a0, .int .i64 a1] w fun e w' => e = .returned (.int .i64 r) ∧ Drawn0 w w' := by
  have H : (if a1 = 0 then (none) else (if (Int.tmod a0 a1) < 0 then (some (wrap64 ((Int.tmod a0 a1) + a1))) else (some (Int.tmod a0 a1)))) = some r := h
  clear h
  by_cases c3 : a1 = 0
  · rw [if_pos c3] at H
    exact absurd H (by simp)
  · rw [if_neg c3] at H
    have c3b0 : (a1 == 0) = false := beq_eq_false_iff_ne.mpr c3
    have c3b1 : (a1 != 0) = true := bne_iff_ne.mpr c3
    by_cases c4 : (Int.tmod a0 a1) < 0
    · rw [if_pos c4] at H
      have c4b0 : decide ((Int.tmod a0 a1) < 0) = true := decide_eq_true c4
      clear c4
      obtain rfl := Option.some.inj H
      go_enter Tryd.func8, Tryd.ntmps8
      go_wp2
      go_ret
      exact ⟨by first | rfl | (simp; done) | (simp [*]; done), by repeat (first | exact Drawn0.refl _ | apply Drawn0.step)⟩
    · rw [if_neg c4] at H
      have c4b0 : decide ((Int.tmod a0 a1) < 0) = false := decide_eq_false c4
      clear c4
      obtain rfl := Option.some.inj H
      go_enter Tryd.func8, Tryd.ntmps8
      go_wp2
      go_ret
      exact ⟨by first | rfl | (simp; done) | (simp [*]; done), by repeat (first | exact Drawn0.refl _ | apply Drawn0.step)⟩

/-! ### label_Join: function 9 -/
def label_Join.f (a0_0 : Int) (a0_1 : Int) (a1_0 : Int) (a1_1 : Int) : Option (Int × Int) := some (Go.bits .or .u64 a0_0 a1_0, mx a0_1 a1_1)
set_option maxHeartbeats 4000000 in
set_option maxRecDepth 100000 in
theorem label_Join.calls (a0_0 : Int) (a0_1 : Int) (a1_0 : Int) (a1_1 : Int) (r1 : Int) (r2 : Int) (w : World) (h : label_Join.f a0_0 a0_1 a1_0 a1_1 = some (r1, r2)) :
    Calls Tryd.prog 9 #[.agg #[.int .u64 a0_0, .int .i64 a0_1], .agg #[.int .u64 a1_0, .int .i64 a1_1]] w fun e w' => e = .returned (.agg #[.int .u64 r1, .int .i64 r2]) ∧ Below w.heap.size w w' := by
  have hu3 := Tryd.underlying3
  have hu22 := Tryd.underlying22
  have hu25 := Tryd.underlying25
  have hz25 : ZeroIs Tryd.prog 25 [.int .u64 0, .int .i64 0] := by unfold ZeroIs; kernel_rfl
  have hs3 : (Tryd.prog.info? 3).map (·.size) = some 1 := by kernel_rfl
  have hs22 : (Tryd.prog.info? 22).map (·.size) = some 1 := by kernel_rfl
  have hs25 : (Tryd.prog.info? 25).map (·.size) = some 2 := by kernel_rfl
  have HO := Aside0.mk (own_refl w)
  have H : (some (Go.bits .or .u64 a0_0 a1_0, mx a0_1 a1_1)) = some (r1, r2) := h
  clear h
  refine have m1 : (if a0_1 < a1_1 then a1_1 else a0_1) = mx a0_1 a1_1 := rfl; some_elim H (fun H => ?_)
  all_goals
    (simp only [Prod.mk.injEq] at H; obtain ⟨rfl, rfl⟩ := H)
    go_enter Tryd.func9, Tryd.ntmps9
    go_wp2_with (first
          | ((with_reducible refine gateA rfl ?_); refine st_alloc HO rfl rfl (by assumption) ?_; intro g_ w_ HO2; clear HO; have HO := HO2; clear HO2)
          | ((with_reducible refine gateB rfl ?_); refine st_box HO rfl rfl rfl ?_; intro g_ w_ HO2; clear HO; have HO := HO2; clear HO2)
          | ((with_reducible refine gateL rfl ?_); (first | refine st_load1 HO (h := ?_) | refine st_loadN HO (h := ?_)))
          | ((with_reducible refine gateS rfl ?_); (first | refine st_storeN HO (h := ?_) | refine st_store1 HO (h := ?_)); intro w_ HO2; clear HO; have HO := HO2; clear HO2))
    refine bodyPost_ret (results_single rfl (.cell _ _ _ (0, 0) _ rfl (own_block HO.out (by with_reducible repeat (first | exact List.mem_cons_self | apply List.mem_cons_of_mem))) (by assumption) rfl (by kernel_rfl) .nil)) rfl ?_
    exact ⟨by first | rfl | (simp; done) | (simp [*]; done), HO.out.1⟩

/-! ### label_Meet: function 10 -/
def label_Meet.f (a0_0 : Int) (a0_1 : Int) (a1_0 : Int) (a1_1 : Int) : Option (Int × Int) := some (Go.bits .and .u64 a0_0 a1_0, mn a0_1 a1_1)
set_option maxHeartbeats 4000000 in
set_option maxRecDepth 100000 in
theorem label_Meet.calls (a0_0 : Int) (a0_1 : Int) (a1_0 : Int) (a1_1 : Int) (r1 : Int) (r2 : Int) (w : World) (h : label_Meet.f a0_0 a0_1 a1_0 a1_1 = some (r1, r2)) :
    Calls Tryd.prog 10 #[.agg #[.int .u64 a0_0, .int .i64 a0_1], .agg #[.int .u64 a1_0, .int .i64 a1_1]] w fun e w' => e = .returned (.agg #[.int .u64 r1, .int .i64 r2]) ∧ Below w.heap.size w w' := by
  have hu3 := Tryd.underlying3
  have hu22 := Tryd.underlying22
  have hu25 := Tryd.underlying25
  have hz25 : ZeroIs Tryd.prog 25 [.int .u64 0, .int .i64 0] := by unfold ZeroIs; kernel_rfl
  have hs3 : (Tryd.prog.info? 3).map (·.size) = some 1 := by kernel_rfl
  have hs22 : (Tryd.prog.info? 22).map (·.size) = some 1 := by kernel_rfl
  have hs25 : (Tryd.prog.info? 25).map (·.size) = some 2 := by kernel_rfl
  have HO := Aside0.mk (own_refl w)
  have H : (some (Go.bits .and .u64 a0_0 a1_0, mn a0_1 a1_1)) = some (r1, r2) := h
  clear h
  refine have m1 : (if a1_1 < a0_1 then a1_1 else a0_1) = mn a0_1 a1_1 := rfl; some_elim H (fun H => ?_)
  all_goals
    (simp only [Prod.mk.injEq] at H; obtain ⟨rfl, rfl⟩ := H)
    go_enter Tryd.func10, Tryd.ntmps10
    go_wp2_with (first
          | ((with_reducible refine gateA rfl ?_); refine st_alloc HO rfl rfl (by assumption) ?_; intro g_ w_ HO2; clear HO; have HO := HO2; clear HO2)
          | ((with_reducible refine gateB rfl ?_); refine st_box HO rfl rfl rfl ?_; intro g_ w_ HO2; clear HO; have HO := HO2; clear HO2)
          | ((with_reducible refine gateL rfl ?_); (first | refine st_load1 HO (h := ?_) | refine st_loadN HO (h := ?_)))
          | ((with_reducible refine gateS rfl ?_); (first | refine st_storeN HO (h := ?_) | refine st_store1 HO (h := ?_)); intro w_ HO2; clear HO; have HO := HO2; clear HO2))
    refine bodyPost_ret (results_single rfl (.cell _ _ _ (0, 0) _ rfl (own_block HO.out (by with_reducible repeat (first | exact List.mem_cons_self | apply List.mem_cons_of_mem))) (by assumption) rfl (by kernel_rfl) .nil)) rfl ?_
    exact ⟨by first | rfl | (simp; done) | (simp [*]; done), HO.out.1⟩

/-! ### label_bit: function 27 -/
def label_bit.f (a0 : Int) : Option (Int) := if 0 ≤ (IntKind.u64.wrap (a0)) then (some (shl .u64 1 (IntKind.u64.wrap (a0)))) else (none)
set_option maxHeartbeats 8000000 in
set_option maxRecDepth 100000 in
theorem label_bit.calls (a0 : Int) (r : Int) (w : World) (h : label_bit.f a0 = some r) :
    Calls Tryd.prog 27 #[.int .i64 a0] w fun e w' => e = .returned (.int .u64 r) ∧ Drawn0 w w' := by
  have H : (if 0 ≤ (IntKind.u64.wrap (a0)) then (some (shl .u64 1 (IntKind.u64.wrap (a0)))) else (none)) = some r := h
  clear h
  obtain ⟨ji2, hji2⟩ : ∃ j_ : Int, (IntKind.u64.wrap (a0)) = j_ := ⟨_, rfl⟩
  replace H : (if 0 ≤ (ji2) then (some (shl .u64 1 (ji2))) else (none)) = some r := by first | (rw [hji2] at H; exact H) | (simp only [hji2] at H ⊢; exact H)
  by_cases c3 : 0 ≤ (ji2)
  · rw [if_pos c3] at H
    have c3b0 := eq_true c3
    have c3b1 : decide (0 ≤ (ji2)) = true := decide_eq_true c3
    clear c3
    obtain ⟨ji4, hji4⟩ : ∃ j_ : Int, (shl .u64 1 (ji2)) = j_ := ⟨_, rfl⟩
    replace H : (some ji4) = some r := by first | (rw [hji4] at H; exact H) | (simp only [hji4] at H ⊢; exact H)
    have hji4_ : (IntKind.u64.wrap (1 * 2 ^ min (ji2).toNat 64)) = ji4 := hji4
    have hji4z : (ji2) ≤ 64 → (IntKind.u64.wrap (1 * 2 ^ (ji2).toNat)) = ji4 := shl_small hji4
    have hji4u : (IntKind.u64.wrap (2 ^ min (ji2).toNat 64)) = ji4 := by have h_ := hji4_; rw [Int.one_mul] at h_; exact h_
    have hji4v : (ji2) ≤ 64 → (IntKind.u64.wrap (2 ^ (ji2).toNat)) = ji4 := fun hle_ => by have h_ := hji4z hle_; rw [Int.one_mul] at h_; exact h_
    obtain rfl := Option.some.inj H
    go_enter Tryd.func27, Tryd.ntmps27
    go_wp2
    go_ret
    exact ⟨by first | rfl | (simp; done) | (simp only [← hji2, ← hji4] <;> (first | rfl | simp)) | (simp [*]; done), by repeat (first | exact Drawn0.refl _ | apply Drawn0.step)⟩
  · rw [if_neg c3] at H
    exact absurd H (by simp)

/-! ### label_Members: function 13 -/
def label_Members.l0 : Nat → List Int → Int → Int → Int → Option (List Int)
  | 0, _, _, _, _ => none
  | k + 1, x3, x5, x108000, x108001 => if x5 < 8 then ((label_bit.f x5).bind fun t108 => (if (Go.bits .and .u64 x108000 t108) > 0 then (if x3.length < 17592186044416 then (label_Members.l0 k (x3 ++ [x5]) (wrap64 (x5 + 1)) x108000 x108001) else (none)) else (label_Members.l0 k x3 (wrap64 (x5 + 1)) x108000 x108001))) else (some x3)
def label_Members.f (k : Nat) (a0_0 : Int) (a0_1 : Int) : Option (List Int) := label_Members.l0 k ([] : List Int) 0 a0_0 a0_1
theorem label_Members.mono_l : ∀ k, (∀ y0 y1 y2 y3, LeO (label_Members.l0 k y0 y1 y2 y3) (label_Members.l0 (k + 1) y0 y1 y2 y3))
  | 0 => fun _ _ _ _ r h => by simp [label_Members.l0] at h
  | k + 1 => by
    have ih0 := label_Members.mono_l k
    · intro y0 y1 y2 y3
      unfold label_Members.l0
      repeat' first
      | (with_reducible exact ih0 _ _ _ _)
      | (with_reducible exact LeO.refl _)
      | (with_reducible exact LeO.none _)
      | (with_reducible refine LeO.ite ?_ ?_)
      | (with_reducible refine LeO.bind ?_ (fun _ => ?_))
      | exact ih0 _ _ _ _
      | exact LeO.none _
      | refine LeO.ite ?_ ?_
      | refine LeO.bind ?_ (fun _ => ?_)
theorem label_Members.mono : ∀ a0 a1 k, LeO (label_Members.f k a0 a1) (label_Members.f (k + 1) a0 a1) := by
  intro a0 a1 k
  have ih0 := label_Members.mono_l k
  unfold label_Members.f
  repeat' first
      | (with_reducible exact ih0 _ _ _ _)
      | (with_reducible exact LeO.refl _)
      | (with_reducible exact LeO.none _)
      | (with_reducible refine LeO.ite ?_ ?_)
      | (with_reducible refine LeO.bind ?_ (fun _ => ?_))
      | exact ih0 _ _ _ _
      | exact LeO.none _
      | refine LeO.ite ?_ ?_
      | refine LeO.bind ?_ (fun _ => ?_)
set_option maxHeartbeats 8000000 in
set_option maxRecDepth 100000 in
theorem label_Members.calls (k : Nat) (a0_0 : Int) (a0_1 : Int) (r : List Int) (w : World) (h : label_Members.f k a0_0 a0_1 = some r) :
    Calls Tryd.prog 13 #[.agg #[.int .u64 a0_0, .int .i64 a0_1]] w fun e w' => ∃ v0_ : Value, e = .returned (v0_) ∧ Kd.R (Kd.int .i64) 3 w' w.heap.size (fun _ => True) v0_ r ∧ Below w.heap.size w w' := by
  have hu25 := Tryd.underlying25
  have HB := Aside0.mk (Below.refl w.heap.size w)
  have H : (label_Members.l0 k ([] : List Int) 0 a0_0 a0_1) = some r := h
  clear h
  have H' := Aside0.mk H
  clear H
  go_enter Tryd.func13, Tryd.ntmps13
  go_wp2_with (first | ((with_reducible refine gate_dst (N := 1) rfl ?_); refine box_event ?hg (N := 1) ?hd (cs := #[.int .u64 a0_0, .int .i64 a0_1]) (t := 25) ?hr ?_; (case hd => rfl); (case hg => rfl); (case hr => first | (go_simp; done) | (go_simp; rfl)); intro gb107 hg w2 hbox hb; have n0_ := Aside0.mk (below_step (by repeat (first | (with_reducible first | exact HB.out | apply below_alloc | apply pw_below_drewN | apply below_drew1) | exact HB.out)) hb); have n1_ := Aside0.mk (hbox); have n2_ := Aside0.mk ((by rw [hg]; exact (below_size (by repeat (first | (with_reducible first | exact HB.out | apply below_alloc | apply pw_below_drewN | apply below_drew1) | exact HB.out))) : w.heap.size ≤ gb107)); have n3_ := Aside0.mk ((by rw [hg]; exact (below_size (by repeat (first | (with_reducible first | exact HB.out | apply below_alloc | apply pw_below_drewN | apply below_drew1) | exact HB.out))) : w.heap.size ≤ gb107)); clear HB; have HB := n0_; have BK107 := n1_; have GW107 := n2_; have GE107 := n3_; clear n0_ n1_ n2_ n3_; clear hb hbox hg))
  repeat (go_quiet (first | ((with_reducible refine gate_dst (N := 1) rfl ?_); refine box_event ?hg (N := 1) ?hd (cs := #[.int .u64 a0_0, .int .i64 a0_1]) (t := 25) ?hr ?_; (case hd => rfl); (case hg => rfl); (case hr => first | (go_simp; done) | (go_simp; rfl)); intro gb107 hg w2 hbox hb; have n0_ := Aside0.mk (below_step (by repeat (first | (with_reducible first | exact HB.out | apply below_alloc | apply pw_below_drewN | apply below_drew1) | exact HB.out)) hb); have n1_ := Aside0.mk (hbox); have n2_ := Aside0.mk ((by rw [hg]; exact (below_size (by repeat (first | (with_reducible first | exact HB.out | apply below_alloc | apply pw_below_drewN | apply below_drew1) | exact HB.out))) : w.heap.size ≤ gb107)); have n3_ := Aside0.mk ((by rw [hg]; exact (below_size (by repeat (first | (with_reducible first | exact HB.out | apply below_alloc | apply pw_below_drewN | apply below_drew1) | exact HB.out))) : w.heap.size ≤ gb107)); clear HB; have HB := n0_; have BK107 := n1_; have GW107 := n2_; have GE107 := n3_; clear n0_ n1_ n2_ n3_; clear hb hbox hg)); try go_wp2_with (first | ((with_reducible refine gate_dst (N := 1) rfl ?_); refine box_event ?hg (N := 1) ?hd (cs := #[.int .u64 a0_0, .int .i64 a0_1]) (t := 25) ?hr ?_; (case hd => rfl); (case hg => rfl); (case hr => first | (go_simp; done) | (go_simp; rfl)); intro gb107 hg w2 hbox hb; have n0_ := Aside0.mk (below_step (by repeat (first | (with_reducible first | exact HB.out | apply below_alloc | apply pw_below_drewN | apply below_drew1) | exact HB.out)) hb); have n1_ := Aside0.mk (hbox); have n2_ := Aside0.mk ((by rw [hg]; exact (below_size (by repeat (first | (with_reducible first | exact HB.out | apply below_alloc | apply pw_below_drewN | apply below_drew1) | exact HB.out))) : w.heap.size ≤ gb107)); have n3_ := Aside0.mk ((by rw [hg]; exact (below_size (by repeat (first | (with_reducible first | exact HB.out | apply below_alloc | apply pw_below_drewN | apply below_drew1) | exact HB.out))) : w.heap.size ≤ gb107)); clear HB; have HB := n0_; have BK107 := n1_; have GW107 := n2_; have GE107 := n3_; clear n0_ n1_ n2_ n3_; clear hb hbox hg)))
  go_loopg [3, 5] k (fun kq v3 v5 w' => ∃ (x3_1 : List Int) (x5_1 : Int), v5 = .int .i64 x5_1 ∧ Aside0 (label_Members.l0 kq x3_1 x5_1 a0_0 a0_1 = some r) ∧ Aside0 (kq ≤ k) ∧ Aside0 (Kd.R (Kd.int .i64) 3 w' w.heap.size (fun _ => True) v3 x3_1) ∧ Aside0 (w'.heap[gb107]? = some (.cells #[.int .u64 a0_0, .int .i64 a0_1] 25 (0, 0))) ∧ Aside0 (Below w.heap.size w w'))
  case atStart => exact ⟨(([] : List Int)), (0), (by first | rfl | (simp; done) | (simp [*]; done)), H', ⟨Nat.le_refl _⟩, ⟨by first | exact Kd.R_nil _ _ _ _ _ | exact Kd.N_nil _ _ _ _ _ | exact Kd.V_nil _ _ _ _ _ | exact Kd.Q_nil _ _ _ _ _ | exact Kd.S_nil _ _ _ _ _⟩, ⟨by (with_reducible repeat (first | refine blk_drewN ?_ _ | refine blk_drew ?_ | refine blk_alloc ?_ _)); exact BK107.out⟩, ⟨by repeat (first | (with_reducible first | exact HB.out | apply below_alloc | apply pw_below_drewN | apply below_drew1 | refine below_set ?_ GE107.out) | exact HB.out)⟩⟩
  case round =>
    clear H'
    try clear c1
    try clear p2
    obtain ⟨x3_1, x5_1, rfl, HA, HK1, HO_3, BK107, HB⟩ := hrel
    cases gk with
    | zero => exact absurd HA.out (by simp [label_Members.l0])
    | succ k1 =>
      have H := HA.out
      clear HA
      simp only [label_Members.l0] at H
      by_cases c3 : x5_1 < 8
      · rw [if_pos c3] at H
        have c3b0 : decide (x5_1 < 8) = true := decide_eq_true c3
        clear c3
        replace H := Option.bind_eq_some_iff.mp H
        obtain ⟨t108, A40, H⟩ := H
        replace H : (if (Go.bits .and .u64 a0_0 t108) > 0 then (if x3_1.length < 17592186044416 then (label_Members.l0 k1 (x3_1 ++ [x5_1]) (wrap64 (x5_1 + 1)) a0_0 a0_1) else (none)) else (label_Members.l0 k1 x3_1 (wrap64 (x5_1 + 1)) a0_0 a0_1)) = some r := H
        have A4 := Aside0.mk A40
        clear A40
        by_cases c5 : (Go.bits .and .u64 a0_0 t108) > 0
        · rw [if_pos c5] at H
          have c5b0 : decide (0 < (Go.bits .and .u64 a0_0 t108)) = true := decide_eq_true c5
          clear c5
          by_cases c6 : x3_1.length < 17592186044416
          · rw [if_pos c6] at H
            have LMc6 := Aside0.mk c6
            clear c6
            obtain ⟨y109, hy109⟩ : ∃ y_ : List Int, y_ = (x3_1 ++ [x5_1]) := ⟨_, rfl⟩
            replace H : (label_Members.l0 k1 y109 (wrap64 (x5_1 + 1)) a0_0 a0_1) = some r := by first | (rw [hy109]; with_reducible exact H) | (have H2_ := (Option.bind_some _ _).symm.trans H; rw [hy109]; with_reducible exact H2_) | (have H2_ := (Option.bind_some _ _).symm.trans H; with_reducible exact H2_) | with_reducible exact H | (rw [hy109]; exact H) | exact H
            have Ny109 := Aside0.mk hy109
            clear hy109
            have H' := Aside0.mk H
            clear H
            have hcz7_0 : wr.cell? ⟨gb107, 0, none⟩ = some (.int .u64 a0_0) := (blk_cell BK107.out 0).trans rfl
            have hcz7_1 : wr.cell? ⟨gb107, 1, none⟩ = some (.int .i64 a0_1) := (blk_cell BK107.out 1).trans rfl
            have hfz7_0 := blk_frozen BK107.out 0
            have hfz7_1 := blk_frozen BK107.out 1
            go_wp2_with (first | (go_at_call 27; (with_reducible refine (label_bit.calls x5_1 t108 _ A4.out).mono ?_); rintro e w' ⟨rfl, ⟨nd, rfl⟩⟩; (try first | exact ⟨rfl, _, World.drewN_drewN _ _ _⟩ | exact ⟨rfl, _, Eq.trans (World.drewN_drewN _ _ _) (congrArg (World.drewN _) (Nat.add_assoc _ _ _))⟩)) | ((with_reducible refine gate_builtin (b := .append) (xs := #[.tmp 14, .tmp 16]) rfl ?_); at_builtin; refine Kd.R_append (Kd.int .i64) (w0 := w) w.heap.size rfl (.tmp 14) (.tmp 16) 30 3 (.int .i64 0) 8 rfl Tryd.underlying30 info3 rfl (by decide) (by omega) u3 x3_1 x5_1 [.int .i64 x5_1] (fun _ => True) (fun _ => False) rfl rfl ?aP (fun _ hk => hk.elim) ?aF ?aO ?aB ?aS ?aL ?_; (case aP => exact rfl); (case aB => exact (by repeat (first | (with_reducible first | exact HB.out | apply below_alloc | apply pw_below_drewN | apply below_drew1 | refine below_set ?_ GE107.out) | exact HB.out))); (case aF => exact (fun _ _ => trivial)); (case aO => exact (by (with_reducible repeat (first | apply Kd.R_alloc | apply Kd.R_drewN | apply Kd.R_drew)); exact HO_3.out)); (case aS => exact (below_size (by repeat (first | (with_reducible first | exact HB.out | apply below_alloc | apply pw_below_drewN | apply below_drew1 | refine below_set ?_ GE107.out) | exact HB.out)))); (case aL => have := LMc6.out; omega); intro v110 w8 ho hb hg hat; rw [← Ny109.out] at ho; have n0_ := Aside0.mk (blk_grown (g := gb107) (o := .cells #[.int .u64 a0_0, .int .i64 a0_1] 25 (0, 0)) (by (with_reducible repeat (first | refine blk_drewN ?_ _ | refine blk_drew ?_ | refine blk_alloc ?_ _)); exact BK107.out) hg (Kd.R_ne HO_3.out BK107.out (by decide))); have n1_ := Aside0.mk (hb); have n2_ := Aside0.mk (ho); clear BK107; clear HB; clear HO_3; have BK107 := n0_; have HB := n1_; have HO111 := n2_; clear n0_ n1_ n2_; clear ho hb hg hat))
            repeat (go_quiet (first | (go_at_call 27; (with_reducible refine (label_bit.calls x5_1 t108 _ A4.out).mono ?_); rintro e w' ⟨rfl, ⟨nd, rfl⟩⟩; (try first | exact ⟨rfl, _, World.drewN_drewN _ _ _⟩ | exact ⟨rfl, _, Eq.trans (World.drewN_drewN _ _ _) (congrArg (World.drewN _) (Nat.add_assoc _ _ _))⟩)) | ((with_reducible refine gate_builtin (b := .append) (xs := #[.tmp 14, .tmp 16]) rfl ?_); at_builtin; refine Kd.R_append (Kd.int .i64) (w0 := w) w.heap.size rfl (.tmp 14) (.tmp 16) 30 3 (.int .i64 0) 8 rfl Tryd.underlying30 info3 rfl (by decide) (by omega) u3 x3_1 x5_1 [.int .i64 x5_1] (fun _ => True) (fun _ => False) rfl rfl ?aP (fun _ hk => hk.elim) ?aF ?aO ?aB ?aS ?aL ?_; (case aP => exact rfl); (case aB => exact (by repeat (first | (with_reducible first | exact HB.out | apply below_alloc | apply pw_below_drewN | apply below_drew1 | refine below_set ?_ GE107.out) | exact HB.out))); (case aF => exact (fun _ _ => trivial)); (case aO => exact (by (with_reducible repeat (first | apply Kd.R_alloc | apply Kd.R_drewN | apply Kd.R_drew)); exact HO_3.out)); (case aS => exact (below_size (by repeat (first | (with_reducible first | exact HB.out | apply below_alloc | apply pw_below_drewN | apply below_drew1 | refine below_set ?_ GE107.out) | exact HB.out)))); (case aL => have := LMc6.out; omega); intro v110 w8 ho hb hg hat; rw [← Ny109.out] at ho; have n0_ := Aside0.mk (blk_grown (g := gb107) (o := .cells #[.int .u64 a0_0, .int .i64 a0_1] 25 (0, 0)) (by (with_reducible repeat (first | refine blk_drewN ?_ _ | refine blk_drew ?_ | refine blk_alloc ?_ _)); exact BK107.out) hg (Kd.R_ne HO_3.out BK107.out (by decide))); have n1_ := Aside0.mk (hb); have n2_ := Aside0.mk (ho); clear BK107; clear HB; clear HO_3; have BK107 := n0_; have HB := n1_; have HO111 := n2_; clear n0_ n1_ n2_; clear ho hb hg hat)); try go_wp2_with (first | (go_at_call 27; (with_reducible refine (label_bit.calls x5_1 t108 _ A4.out).mono ?_); rintro e w' ⟨rfl, ⟨nd, rfl⟩⟩; (try first | exact ⟨rfl, _, World.drewN_drewN _ _ _⟩ | exact ⟨rfl, _, Eq.trans (World.drewN_drewN _ _ _) (congrArg (World.drewN _) (Nat.add_assoc _ _ _))⟩)) | ((with_reducible refine gate_builtin (b := .append) (xs := #[.tmp 14, .tmp 16]) rfl ?_); at_builtin; refine Kd.R_append (Kd.int .i64) (w0 := w) w.heap.size rfl (.tmp 14) (.tmp 16) 30 3 (.int .i64 0) 8 rfl Tryd.underlying30 info3 rfl (by decide) (by omega) u3 x3_1 x5_1 [.int .i64 x5_1] (fun _ => True) (fun _ => False) rfl rfl ?aP (fun _ hk => hk.elim) ?aF ?aO ?aB ?aS ?aL ?_; (case aP => exact rfl); (case aB => exact (by repeat (first | (with_reducible first | exact HB.out | apply below_alloc | apply pw_below_drewN | apply below_drew1 | refine below_set ?_ GE107.out) | exact HB.out))); (case aF => exact (fun _ _ => trivial)); (case aO => exact (by (with_reducible repeat (first | apply Kd.R_alloc | apply Kd.R_drewN | apply Kd.R_drew)); exact HO_3.out)); (case aS => exact (below_size (by repeat (first | (with_reducible first | exact HB.out | apply below_alloc | apply pw_below_drewN | apply below_drew1 | refine below_set ?_ GE107.out) | exact HB.out)))); (case aL => have := LMc6.out; omega); intro v110 w8 ho hb hg hat; rw [← Ny109.out] at ho; have n0_ := Aside0.mk (blk_grown (g := gb107) (o := .cells #[.int .u64 a0_0, .int .i64 a0_1] 25 (0, 0)) (by (with_reducible repeat (first | refine blk_drewN ?_ _ | refine blk_drew ?_ | refine blk_alloc ?_ _)); exact BK107.out) hg (Kd.R_ne HO_3.out BK107.out (by decide))); have n1_ := Aside0.mk (hb); have n2_ := Aside0.mk (ho); clear BK107; clear HB; clear HO_3; have BK107 := n0_; have HB := n1_; have HO111 := n2_; clear n0_ n1_ n2_; clear ho hb hg hat)))
            go_roundg k1
            case measure => have := HK1.out; omega
            case rel => exact ⟨(y109), (wrap64 (x5_1 + 1)), (by first | rfl | (simp; done) | (simp [*]; done)), H', ⟨by have := HK1.out; omega⟩, ⟨by (with_reducible repeat (first | apply Kd.R_alloc | apply Kd.R_drewN | apply Kd.R_drew)); exact HO111.out⟩, ⟨by (with_reducible repeat (first | refine blk_drewN ?_ _ | refine blk_drew ?_ | refine blk_alloc ?_ _)); exact BK107.out⟩, ⟨by repeat (first | (with_reducible first | exact HB.out | apply below_alloc | apply pw_below_drewN | apply below_drew1 | refine below_set ?_ GE107.out) | exact HB.out)⟩⟩
          · rw [if_neg c6] at H
            exact absurd H (by simp)
        · rw [if_neg c5] at H
          have c5b0 : decide (0 < (Go.bits .and .u64 a0_0 t108)) = false := decide_eq_false c5
          clear c5
          have H' := Aside0.mk H
          clear H
          have hcz9_0 : wr.cell? ⟨gb107, 0, none⟩ = some (.int .u64 a0_0) := (blk_cell BK107.out 0).trans rfl
          have hcz9_1 : wr.cell? ⟨gb107, 1, none⟩ = some (.int .i64 a0_1) := (blk_cell BK107.out 1).trans rfl
          have hfz9_0 := blk_frozen BK107.out 0
          have hfz9_1 := blk_frozen BK107.out 1
          go_wp2_with (first | (go_at_call 27; (with_reducible refine (label_bit.calls x5_1 t108 _ A4.out).mono ?_); rintro e w' ⟨rfl, ⟨nd, rfl⟩⟩; (try first | exact ⟨rfl, _, World.drewN_drewN _ _ _⟩ | exact ⟨rfl, _, Eq.trans (World.drewN_drewN _ _ _) (congrArg (World.drewN _) (Nat.add_assoc _ _ _))⟩)))
          repeat (go_quiet (first | (go_at_call 27; (with_reducible refine (label_bit.calls x5_1 t108 _ A4.out).mono ?_); rintro e w' ⟨rfl, ⟨nd, rfl⟩⟩; (try first | exact ⟨rfl, _, World.drewN_drewN _ _ _⟩ | exact ⟨rfl, _, Eq.trans (World.drewN_drewN _ _ _) (congrArg (World.drewN _) (Nat.add_assoc _ _ _))⟩))); try go_wp2_with (first | (go_at_call 27; (with_reducible refine (label_bit.calls x5_1 t108 _ A4.out).mono ?_); rintro e w' ⟨rfl, ⟨nd, rfl⟩⟩; (try first | exact ⟨rfl, _, World.drewN_drewN _ _ _⟩ | exact ⟨rfl, _, Eq.trans (World.drewN_drewN _ _ _) (congrArg (World.drewN _) (Nat.add_assoc _ _ _))⟩))))
          go_roundg k1
          case measure => have := HK1.out; omega
          case rel => exact ⟨(x3_1), (wrap64 (x5_1 + 1)), (by first | rfl | (simp; done) | (simp [*]; done)), H', ⟨by have := HK1.out; omega⟩, ⟨by (with_reducible repeat (first | apply Kd.R_alloc | apply Kd.R_drewN | apply Kd.R_drew)); exact HO_3.out⟩, ⟨by (with_reducible repeat (first | refine blk_drewN ?_ _ | refine blk_drew ?_ | refine blk_alloc ?_ _)); exact BK107.out⟩, ⟨by repeat (first | (with_reducible first | exact HB.out | apply below_alloc | apply pw_below_drewN | apply below_drew1 | refine below_set ?_ GE107.out) | exact HB.out)⟩⟩
      · rw [if_neg c3] at H
        have c3b0 : decide (x5_1 < 8) = false := decide_eq_false c3
        clear c3
        obtain rfl := Option.some.inj H
        go_wp2
        repeat (go_quiet (fail); try go_wp2)
        go_ret
        exact ⟨_, by first | rfl | (simp [errW_none, errW_some] <;> rfl) | (simp [*, errW_none, errW_some] <;> rfl), by (with_reducible repeat (first | apply Kd.R_alloc | apply Kd.R_drewN | apply Kd.R_drew)); exact HO_3.out, by repeat (first | (with_reducible first | exact HB.out | apply below_alloc | apply pw_below_drewN | apply below_drew1 | refine below_set ?_ GE107.out) | exact HB.out)⟩

/-! ### label_Right: function 17 -/
def label_Right.f (a0_0 : Int) (a0_1 : Int) : Option (Bool) := (label_bit.f 8).bind fun t113 => (if a0_0 < t113 then (if a0_1 ≥ 0 then (some (decide (a0_1 ≤ 3))) else (some false)) else (some false))
set_option maxHeartbeats 4000000 in
set_option maxRecDepth 100000 in
theorem label_Right.calls (a0_0 : Int) (a0_1 : Int) (r : Bool) (w : World) (h : label_Right.f a0_0 a0_1 = some r) :
    Calls Tryd.prog 17 #[.agg #[.int .u64 a0_0, .int .i64 a0_1]] w fun e w' => e = .returned (.bool r) ∧ Below w.heap.size w w' := by
  have hu3 := Tryd.underlying3
  have hu22 := Tryd.underlying22
  have hu25 := Tryd.underlying25
  have hs3 : (Tryd.prog.info? 3).map (·.size) = some 1 := by kernel_rfl
  have hs22 : (Tryd.prog.info? 22).map (·.size) = some 1 := by kernel_rfl
  have hs25 : (Tryd.prog.info? 25).map (·.size) = some 2 := by kernel_rfl
  have HO := Aside0.mk (own_refl w)
  have H : ((label_bit.f 8).bind fun t113 => (if a0_0 < t113 then (if a0_1 ≥ 0 then (some (decide (a0_1 ≤ 3))) else (some false)) else (some false))) = some r := h
  clear h
  refine bind_elim H (fun t113 A1_ H => have A1 := Aside0.mk A1_; clear% A1_; ite_elim H (fun c2 H => have cb7 : decide (a0_0 < t113) = true := decide_eq_true c2; ite_elim H (fun c3 H => have cb4 : decide (0 ≤ a0_1) = true := decide_eq_true c3; some_elim H (fun H => ?_)) (fun c5 H => have cb6 : decide (0 ≤ a0_1) = false := decide_eq_false c5; some_elim H (fun H => ?_))) (fun c8 H => have cb9 : decide (a0_0 < t113) = false := decide_eq_false c8; some_elim H (fun H => ?_)))
  all_goals
    subst H
    go_enter Tryd.func17, Tryd.ntmps17
    go_wp2_with (first
          | ((with_reducible refine gateA rfl ?_); refine st_alloc HO rfl rfl (by assumption) ?_; intro g_ w_ HO2; clear HO; have HO := HO2; clear HO2)
          | ((with_reducible refine gateB rfl ?_); refine st_box HO rfl rfl rfl ?_; intro g_ w_ HO2; clear HO; have HO := HO2; clear HO2)
          | ((with_reducible refine gateL rfl ?_); (first | refine st_load1 HO (h := ?_) | refine st_loadN HO (h := ?_)))
          | ((with_reducible refine gateS rfl ?_); (first | refine st_storeN HO (h := ?_) | refine st_store1 HO (h := ?_)); intro w_ HO2; clear HO; have HO := HO2; clear HO2)
          | (go_at_call 27; (with_reducible refine (label_bit.calls _ _ _ (Aside0.out (by assumption))).mono ?_); rintro e w_ ⟨rfl, hb⟩; replace hb := drawn_below hb; have HO2 := Aside0.mk (own_call HO.out hb); clear hb HO; have HO := HO2; clear HO2))
    try
     ((refine startO (id := 1) HO 15 [] #[false, false, false, false, false, false, false, false, false, false, false, false, false, false, false] (by kernel_rfl) rfl rfl (fun w_ HO2 => ?_); clear HO; have HO := HO2; clear HO2)
      refine pureO 0 (some 3) #[true, false, false, false, false, false, false, false, false, false, false, false, false, false, false] (by kernel_rfl) (h := ?_)
      refine loadO HO 1 (some 4) #[true, true, false, false, false, false, false, false, false, false, false, false, false, false, false] (by kernel_rfl) (h := ?_)
      (refine callO HO 2 (some 5) #[true, true, true, false, false, false, false, false, false, false, false, false, false, false, false] Tryd.func27 (by kernel_rfl) (h := ?_); refine (label_bit.calls _ _ _ (Aside0.out (by assumption))).mono ?_; rintro e w_ ⟨rfl, hb⟩; replace hb := drawn_below hb; refine ⟨_, rfl, hb, fun a_ ha HO2 => ?_⟩; clear HO hb; have HO := HO2; clear HO2; simp only [Act.put, List.setIfInBounds_toArray, List.set_cons_zero, List.set_cons_succ] at ha; subst ha)
      refine pureO 3 (some 6) #[true, true, true, true, false, false, false, false, false, false, false, false, false, false, false] (by kernel_rfl) (h := ?_)
      refine pureO 4 (some 7) #[true, true, true, true, true, false, false, false, false, false, false, false, false, false, false] (by kernel_rfl) (h := ?_)
      refine pureO 5 (some 8) #[true, true, true, true, true, true, false, false, false, false, false, false, false, false, false] (by kernel_rfl) (h := ?_)
      refine loadO HO 6 (some 9) #[true, true, true, true, true, true, true, false, false, false, false, false, false, false, false] (by kernel_rfl) (h := ?_)
      refine pureO 7 (some 10) #[true, true, true, true, true, true, true, true, false, false, false, false, false, false, false] (by kernel_rfl) (h := ?_)
      refine pureO 8 (some 11) #[true, true, true, true, true, true, true, true, true, false, false, false, false, false, false] (by kernel_rfl) (h := ?_)
      refine pureO 9 (some 12) #[true, true, true, true, true, true, true, true, true, true, false, false, false, false, false] (by kernel_rfl) (h := ?_)
      refine pureO 10 (some 13) #[true, true, true, true, true, true, true, true, true, true, true, false, false, false, false] (by kernel_rfl) (h := ?_)
      refine loadO HO 11 (some 14) #[true, true, true, true, true, true, true, true, true, true, true, true, false, false, false] (by kernel_rfl) (h := ?_)
      refine pureO 12 (some 15) #[true, true, true, true, true, true, true, true, true, true, true, true, true, false, false] (by kernel_rfl) (h := ?_)
      refine pureO 13 (some 16) #[true, true, true, true, true, true, true, true, true, true, true, true, true, true, false] (by kernel_rfl) (h := ?_)
      refine pureO 14 (some 2) #[true, true, true, true, true, true, true, true, true, true, true, true, true, true, true] (by kernel_rfl) (h := ?_)
      refine done_ (by kernel_rfl) ?_
      go_wp2_with (first
          | ((with_reducible refine gateA rfl ?_); refine st_alloc HO rfl rfl (by assumption) ?_; intro g_ w_ HO2; clear HO; have HO := HO2; clear HO2)
          | ((with_reducible refine gateB rfl ?_); refine st_box HO rfl rfl rfl ?_; intro g_ w_ HO2; clear HO; have HO := HO2; clear HO2)
          | ((with_reducible refine gateL rfl ?_); (first | refine st_load1 HO (h := ?_) | refine st_loadN HO (h := ?_)))
          | ((with_reducible refine gateS rfl ?_); (first | refine st_storeN HO (h := ?_) | refine st_store1 HO (h := ?_)); intro w_ HO2; clear HO; have HO := HO2; clear HO2)
          | (go_at_call 27; (with_reducible refine (label_bit.calls _ _ _ (Aside0.out (by assumption))).mono ?_); rintro e w_ ⟨rfl, hb⟩; replace hb := drawn_below hb; have HO2 := Aside0.mk (own_call HO.out hb); clear hb HO; have HO := HO2; clear HO2)))
    refine bodyPost_ret (results_single rfl (.tmp .nil)) rfl ?_
    exact ⟨by first | rfl | (simp; done) | (simp [*]; done), HO.out.1⟩

-- NOT PRINTED: function 46 (abi_NoEscape)

-- NOT PRINTED: function 38 (strings_Builder_copyCheck)

-- NOT PRINTED: function 30 (strings_Builder_WriteString)

-- NOT PRINTED: function 32 (strings_Builder_String)

/-! ### label_Print: function 15 -/
def pw_dig (n : Nat) : List UInt8 := if n < 10 then [UInt8.ofNat (48 + n)] else [UInt8.ofNat (48 + n / 10), UInt8.ofNat (48 + n % 10)]
def label_Print.f (a0_0 a0_1 : Int) : Option ByteArray :=
  (label_Right.f a0_0 a0_1).bind fun t => if t = true then (label_Members.f 10 a0_0 a0_1).bind fun l => (if (0 ≤ a0_1 ∧ a0_1 < 100) ∧ (∀ x ∈ l, 0 ≤ x ∧ x < 100) ∧ l.length < 1000 then some (⟨((pw_dig a0_1.toNat ++ [58]) ++ l.flatMap fun x : Int => pw_dig x.toNat).toArray⟩ : ByteArray) else none) else some ⟨#[]⟩
theorem pw_digits2 (n : Nat) (h : n < 100) : (Lib.decDigits n).length ≤ 2 := by
  rw [Lib.decDigits]
  split
  · simp
  · rw [Lib.decDigits, dif_pos (by omega)]; simp
theorem pw_row {w : World} {base : Nat} {ok : Nat → Prop} {v : Value} {l : List Int} (h : Kd.R (Kd.int .i64) 3 w base ok v l) : ∃ A c, v = .slice A l.length c ∧ ∀ (i : Nat) (hi : i < l.length), ∃ g cs, A = some ⟨g, 0, none⟩ ∧ w.heap[g]? = some (.cells cs 3 (0, 0)) ∧ w.cell? ⟨g, i, none⟩ = some (.int .i64 l[i]) := by
  obtain ⟨A, c, rfl, hc, hr⟩ := Kd.R_reads h
  refine ⟨A, c, rfl, fun i hi => ?_⟩
  obtain ⟨g, cap, he, _, _, cs, hcs⟩ := Kd.R_form h (by omega)
  simp only [Value.slice.injEq] at he
  obtain ⟨rfl, _, rfl⟩ := he
  refine ⟨g, cs, rfl, hcs, ?_⟩
  have hf := Kd.foot_int hr (i : Int) (by omega) (by omega)
  have ha : (⟨g, 0, none⟩ : Addr).add ((i : Int).toNat) = ⟨g, i, none⟩ := by simp only [Addr.add, Int.toNat_natCast]; split <;> simp_all
  rw [ha] at hf
  simpa [rd, hi] using hf
theorem pw_flat (l : List Int) (h : ∀ x ∈ l, 0 ≤ x ∧ x < 100) : ∀ i : Nat, ((l.take i).flatMap fun x : Int => Lib.decDigits x.toNat).length ≤ 2 * i := by
  intro i
  induction l generalizing i with
  | nil => simp
  | cons a t ih =>
    cases i with
    | zero => simp
    | succ i =>
      have h1 := pw_digits2 a.toNat (by have := h a (by simp); omega)
      have h2 := ih (fun x hx => h x (by simp [hx])) i
      simp only [List.take_succ_cons, List.flatMap_cons, List.length_append]
      omega
theorem pw_step (l : List Int) (i : Nat) (hi : i < l.length) (n : Nat) (hn : l[i] = (n : Int)) : Lib.byteCells ((l.take i).flatMap fun x : Int => Lib.decDigits x.toNat) ++ Lib.strCells ⟨(Lib.decDigits n).toArray⟩ = Lib.byteCells ((l.take (i + 1)).flatMap fun x : Int => Lib.decDigits x.toNat) := by
  rw [List.take_succ_eq_append_getElem hi, List.flatMap_append, hn, Lib.strCells_eq]
  simp [Lib.byteCells]
theorem pw_dig_eq (n : Nat) (h : n < 100) : Lib.decDigits n = pw_dig n := by
  rw [Lib.decDigits, pw_dig]
  split
  · rfl
  · rw [Lib.decDigits, dif_pos (by omega)]; rfl
theorem pw_flat_eq (l : List Int) (h : ∀ x ∈ l, 0 ≤ x ∧ x < 100) : (l.flatMap fun x : Int => pw_dig x.toNat) = l.flatMap fun x : Int => Lib.decDigits x.toNat := by
  induction l with
  | nil => rfl
  | cons a t ih =>
    rw [List.flatMap_cons, List.flatMap_cons, ih (fun x hx => h x (by simp [hx])), pw_dig_eq _ (by have := h a (by simp); omega)]
set_option maxHeartbeats 2000000 in
set_option maxRecDepth 100000 in
theorem label_Print.calls (a0_0 a0_1 : Int) (r : ByteArray) (w : World) (h : label_Print.f a0_0 a0_1 = some r) :
    Calls Tryd.prog 15 #[.agg #[.int .u64 a0_0, .int .i64 a0_1]] w fun e w' => e = .returned (.string r) ∧ Below w.heap.size w w' := by
  have hu25 := Tryd.underlying25
  unfold label_Print.f at h
  obtain ⟨t, A2_, H⟩ := Option.bind_eq_some_iff.mp h
  have A2 := Aside0.mk A2_
  clear A2_ h
  have HB := Aside0.mk (Below.refl w.heap.size w)
  cases t
  case false =>
    rw [if_neg (by decide)] at H
    obtain rfl := Option.some.inj H
    go_enter Tryd.func15, Tryd.ntmps15
    go_wp2_with (first | ((with_reducible refine gate_dst (N := 1) rfl ?_); refine box_event ?hg (N := 1) ?hd (cs := #[.int .u64 a0_0, .int .i64 a0_1]) (t := 25) ?hr ?_; (case hd => rfl); (case hg => rfl); (case hr => first | (go_simp; done) | (go_simp; rfl)); intro gb hg w4 hbox hb; have BK := Aside0.mk hbox; have HB2 := Aside0.mk (below_step HB.out hb); clear HB; have HB := HB2; clear HB2 hb hbox hg; have hcz0_w4 : w4.cell? ⟨gb, 0, none⟩ = some (.int .u64 a0_0) := (blk_cell BK.out 0).trans rfl; have hcz1_w4 : w4.cell? ⟨gb, 1, none⟩ = some (.int .i64 a0_1) := (blk_cell BK.out 1).trans rfl; have hfz0_w4 := blk_frozen BK.out 0; have hfz1_w4 := blk_frozen BK.out 1) | (go_at_call 17; (with_reducible refine (label_Right.calls a0_0 a0_1 false _ A2.out).mono ?_); rintro e w6 ⟨rfl, hb⟩; have HB2 := Aside0.mk (below_step (by repeat (first | (with_reducible first | exact HB.out | apply below_alloc | apply pw_below_drewN | apply below_drew1) | exact HB.out)) hb); have BK2 := Aside0.mk (blk_below (g := gb) (o := .cells #[.int .u64 a0_0, .int .i64 a0_1] 25 (0, 0)) (by (with_reducible repeat (first | refine blk_drewN ?_ _ | refine blk_drew ?_ | refine blk_alloc ?_ _)); exact BK.out) hb); clear HB BK; have HB := HB2; have BK := BK2; clear HB2 BK2 hb; have hcz0_w6 : w6.cell? ⟨gb, 0, none⟩ = some (.int .u64 a0_0) := (blk_cell BK.out 0).trans rfl; have hcz1_w6 : w6.cell? ⟨gb, 1, none⟩ = some (.int .i64 a0_1) := (blk_cell BK.out 1).trans rfl; have hfz0_w6 := blk_frozen BK.out 0; have hfz1_w6 := blk_frozen BK.out 1))
    repeat (go_quiet (first | ((with_reducible refine gate_dst (N := 1) rfl ?_); refine box_event ?hg (N := 1) ?hd (cs := #[.int .u64 a0_0, .int .i64 a0_1]) (t := 25) ?hr ?_; (case hd => rfl); (case hg => rfl); (case hr => first | (go_simp; done) | (go_simp; rfl)); intro gb hg w4 hbox hb; have BK := Aside0.mk hbox; have HB2 := Aside0.mk (below_step HB.out hb); clear HB; have HB := HB2; clear HB2 hb hbox hg; have hcz0_w4 : w4.cell? ⟨gb, 0, none⟩ = some (.int .u64 a0_0) := (blk_cell BK.out 0).trans rfl; have hcz1_w4 : w4.cell? ⟨gb, 1, none⟩ = some (.int .i64 a0_1) := (blk_cell BK.out 1).trans rfl; have hfz0_w4 := blk_frozen BK.out 0; have hfz1_w4 := blk_frozen BK.out 1) | (go_at_call 17; (with_reducible refine (label_Right.calls a0_0 a0_1 false _ A2.out).mono ?_); rintro e w6 ⟨rfl, hb⟩; have HB2 := Aside0.mk (below_step (by repeat (first | (with_reducible first | exact HB.out | apply below_alloc | apply pw_below_drewN | apply below_drew1) | exact HB.out)) hb); have BK2 := Aside0.mk (blk_below (g := gb) (o := .cells #[.int .u64 a0_0, .int .i64 a0_1] 25 (0, 0)) (by (with_reducible repeat (first | refine blk_drewN ?_ _ | refine blk_drew ?_ | refine blk_alloc ?_ _)); exact BK.out) hb); clear HB BK; have HB := HB2; have BK := BK2; clear HB2 BK2 hb; have hcz0_w6 : w6.cell? ⟨gb, 0, none⟩ = some (.int .u64 a0_0) := (blk_cell BK.out 0).trans rfl; have hcz1_w6 : w6.cell? ⟨gb, 1, none⟩ = some (.int .i64 a0_1) := (blk_cell BK.out 1).trans rfl; have hfz0_w6 := blk_frozen BK.out 0; have hfz1_w6 := blk_frozen BK.out 1)); try go_wp2_with (first | ((with_reducible refine gate_dst (N := 1) rfl ?_); refine box_event ?hg (N := 1) ?hd (cs := #[.int .u64 a0_0, .int .i64 a0_1]) (t := 25) ?hr ?_; (case hd => rfl); (case hg => rfl); (case hr => first | (go_simp; done) | (go_simp; rfl)); intro gb hg w4 hbox hb; have BK := Aside0.mk hbox; have HB2 := Aside0.mk (below_step HB.out hb); clear HB; have HB := HB2; clear HB2 hb hbox hg; have hcz0_w4 : w4.cell? ⟨gb, 0, none⟩ = some (.int .u64 a0_0) := (blk_cell BK.out 0).trans rfl; have hcz1_w4 : w4.cell? ⟨gb, 1, none⟩ = some (.int .i64 a0_1) := (blk_cell BK.out 1).trans rfl; have hfz0_w4 := blk_frozen BK.out 0; have hfz1_w4 := blk_frozen BK.out 1) | (go_at_call 17; (with_reducible refine (label_Right.calls a0_0 a0_1 false _ A2.out).mono ?_); rintro e w6 ⟨rfl, hb⟩; have HB2 := Aside0.mk (below_step (by repeat (first | (with_reducible first | exact HB.out | apply below_alloc | apply pw_below_drewN | apply below_drew1) | exact HB.out)) hb); have BK2 := Aside0.mk (blk_below (g := gb) (o := .cells #[.int .u64 a0_0, .int .i64 a0_1] 25 (0, 0)) (by (with_reducible repeat (first | refine blk_drewN ?_ _ | refine blk_drew ?_ | refine blk_alloc ?_ _)); exact BK.out) hb); clear HB BK; have HB := HB2; have BK := BK2; clear HB2 BK2 hb; have hcz0_w6 : w6.cell? ⟨gb, 0, none⟩ = some (.int .u64 a0_0) := (blk_cell BK.out 0).trans rfl; have hcz1_w6 : w6.cell? ⟨gb, 1, none⟩ = some (.int .i64 a0_1) := (blk_cell BK.out 1).trans rfl; have hfz0_w6 := blk_frozen BK.out 0; have hfz1_w6 := blk_frozen BK.out 1)))
    go_ret
    exact ⟨rfl, by repeat (first | (with_reducible first | exact HB.out | apply below_alloc | apply pw_below_drewN | apply below_drew1) | exact HB.out)⟩
  case true =>
    rw [if_pos rfl] at H
    obtain ⟨l, A3_, H⟩ := Option.bind_eq_some_iff.mp H
    have A3 := Aside0.mk A3_
    clear A3_
    by_cases hs : (0 ≤ a0_1 ∧ a0_1 < 100) ∧ (∀ x ∈ l, 0 ≤ x ∧ x < 100) ∧ l.length < 1000
    case neg => rw [if_neg hs] at H; exact absurd H (by simp)
    rw [if_pos hs] at H
    obtain ⟨n0, rfl⟩ : ∃ n0 : Nat, a0_1 = (n0 : Int) := ⟨a0_1.toNat, by have := hs.1.1; omega⟩
    have Hr_ := Option.some.inj H
    rw [pw_flat_eq l hs.2.1, ← pw_dig_eq _ (by have := hs.1.2; omega)] at Hr_
    have Hr := Aside0.mk Hr_
    clear Hr_
    have Hl := Aside0.mk hs.2
    have hn0 : n0 < 100 := by have := hs.1.2; omega
    clear H hs
    have hsz : (⟨(Lib.decDigits n0).toArray⟩ : ByteArray).size ≤ 2 := by show (Lib.decDigits n0).toArray.size ≤ 2; rw [List.size_toArray]; exact pw_digits2 n0 hn0
    obtain ⟨s0, hs0_⟩ : ∃ s0 : ByteArray, s0 = (⟨(Lib.decDigits n0).toArray⟩ : ByteArray) := ⟨_, rfl⟩
    rw [← hs0_] at hsz
    have hs0 := Aside0.mk hs0_
    clear hs0_
    have c1 : s0.size + 1 ≤ 9223372036854775807 := by omega
    have c1b0 := eq_true c1
    have c1b1 : decide (s0.size + 1 ≤ 9223372036854775807) = true := decide_eq_true c1
    have c1b2 : (9223372036854775807 < s0.size + 1) = False := eq_false (Nat.not_lt.2 c1)
    have hsz' := Aside0.mk hsz
    clear c1 hsz
    go_enter Tryd.func15, Tryd.ntmps15
    go_wp2_with (first | ((with_reducible refine gate_dst (N := 1) rfl ?_); refine box_event ?hg (N := 1) ?hd (cs := #[.int .u64 a0_0, .int .i64 n0]) (t := 25) ?hr ?_; (case hd => rfl); (case hg => rfl); (case hr => first | (go_simp; done) | (go_simp; rfl)); intro gb hg w4 hbox hb; have BK := Aside0.mk hbox; have HB2 := Aside0.mk (below_step HB.out hb); clear HB; have HB := HB2; clear HB2 hb hbox hg; have hcz0_w4 : w4.cell? ⟨gb, 0, none⟩ = some (.int .u64 a0_0) := (blk_cell BK.out 0).trans rfl; have hcz1_w4 : w4.cell? ⟨gb, 1, none⟩ = some (.int .i64 n0) := (blk_cell BK.out 1).trans rfl; have hfz0_w4 := blk_frozen BK.out 0; have hfz1_w4 := blk_frozen BK.out 1) | (go_at_call 17; (with_reducible refine (label_Right.calls a0_0 n0 true _ A2.out).mono ?_); rintro e w6 ⟨rfl, hb⟩; have HB2 := Aside0.mk (below_step (by repeat (first | (with_reducible first | exact HB.out | apply below_alloc | apply pw_below_drewN | apply below_drew1) | exact HB.out)) hb); have BK2 := Aside0.mk (blk_below (g := gb) (o := .cells #[.int .u64 a0_0, .int .i64 n0] 25 (0, 0)) (by (with_reducible repeat (first | refine blk_drewN ?_ _ | refine blk_drew ?_ | refine blk_alloc ?_ _)); exact BK.out) hb); clear HB BK; have HB := HB2; have BK := BK2; clear HB2 BK2 hb; have hcz0_w6 : w6.cell? ⟨gb, 0, none⟩ = some (.int .u64 a0_0) := (blk_cell BK.out 0).trans rfl; have hcz1_w6 : w6.cell? ⟨gb, 1, none⟩ = some (.int .i64 n0) := (blk_cell BK.out 1).trans rfl; have hfz0_w6 := blk_frozen BK.out 0; have hfz1_w6 := blk_frozen BK.out 1) | ((with_reducible refine gate_dst (N := 3) rfl ?_); refine box_event ?hg (N := 3) ?hd (cs := #[.pointer none, .slice none 0 0]) (t := 53) ?hr ?_; (case hd => rfl); (case hg => rfl); (case hr => first | (go_simp; done) | (go_simp; rfl)); intro gs hgs w7 hbox hb; have HI := Aside0.mk (Tryd.isBuilder_new (T := 53) (e := 5) hbox); have hgs' := Aside0.mk ((by rw [hgs]; exact below_size (by repeat (first | (with_reducible first | exact HB.out | apply below_alloc | apply pw_below_drewN | apply below_drew1) | exact HB.out))) : w.heap.size ≤ gs); have HB2 := Aside0.mk (below_step (by repeat (first | (with_reducible first | exact HB.out | apply below_alloc | apply pw_below_drewN | apply below_drew1) | exact HB.out)) hb); have BK2 := Aside0.mk (blk_below (g := gb) (o := .cells #[.int .u64 a0_0, .int .i64 n0] 25 (0, 0)) (by (with_reducible repeat (first | refine blk_drewN ?_ _ | refine blk_drew ?_ | refine blk_alloc ?_ _)); exact BK.out) hb); clear HB BK; have HB := HB2; have BK := BK2; clear HB2 BK2 hb hbox hgs; have hcz0_w7 : w7.cell? ⟨gb, 0, none⟩ = some (.int .u64 a0_0) := (blk_cell BK.out 0).trans rfl; have hcz1_w7 : w7.cell? ⟨gb, 1, none⟩ = some (.int .i64 n0) := (blk_cell BK.out 1).trans rfl; have hfz0_w7 := blk_frozen BK.out 0; have hfz1_w7 := blk_frozen BK.out 1) | (go_at_call 31; refine (Tryd.strconv_Itoa_small n0 hn0 _).mono ?_; rintro e w' ⟨he, rfl⟩; rw [← hs0.out] at he; subst he) | (go_at_call 30; refine (Tryd.WriteString_k gs gs [] _ _ HI.out (by have := hsz'.out; simp only [List.length_nil, ByteArray.size_append]; show 0 + (s0.size + 1) ≤ _; omega) (Nat.le_of_lt (Tryd.isBuilder_lt HI.out))).mono ?_; rintro e w8 ⟨rfl, hib, hb, hst⟩; have BK2 := Aside0.mk (hst gb _ _ _ (by (with_reducible repeat (first | refine blk_drewN ?_ _ | refine blk_drew ?_ | refine blk_alloc ?_ _)); exact BK.out) (by decide) (by decide)); have HB2 := Aside0.mk (Tryd.below_in (by repeat (first | (with_reducible first | exact HB.out | apply below_alloc | apply pw_below_drewN | apply below_drew1) | exact HB.out)) hb hgs'.out); have HI2 := Aside0.mk hib; clear HB BK HI; have HB := HB2; have BK := BK2; have HI := HI2; clear HB2 BK2 HI2 hb hib hst; have hcz0_w8 : w8.cell? ⟨gb, 0, none⟩ = some (.int .u64 a0_0) := (blk_cell BK.out 0).trans rfl; have hcz1_w8 : w8.cell? ⟨gb, 1, none⟩ = some (.int .i64 n0) := (blk_cell BK.out 1).trans rfl; have hfz0_w8 := blk_frozen BK.out 0; have hfz1_w8 := blk_frozen BK.out 1) | (go_at_call 13; (with_reducible refine (label_Members.calls 10 a0_0 n0 l _ A3.out).mono ?_); rintro e w9 ⟨v0, rfl, hr, hb⟩; obtain ⟨A, c, rfl, hrow⟩ := pw_row hr; have HR := Aside0.mk hrow; have HB2 := Aside0.mk (below_step (by repeat (first | (with_reducible first | exact HB.out | apply below_alloc | apply pw_below_drewN | apply below_drew1) | exact HB.out)) hb); have HI2 := Aside0.mk (Tryd.isBuilder_below HI.out hb); clear HB BK HI; have HB := HB2; have HI := HI2; clear HB2 HI2 hb hr hrow))
    repeat (go_quiet (first | ((with_reducible refine gate_dst (N := 1) rfl ?_); refine box_event ?hg (N := 1) ?hd (cs := #[.int .u64 a0_0, .int .i64 n0]) (t := 25) ?hr ?_; (case hd => rfl); (case hg => rfl); (case hr => first | (go_simp; done) | (go_simp; rfl)); intro gb hg w4 hbox hb; have BK := Aside0.mk hbox; have HB2 := Aside0.mk (below_step HB.out hb); clear HB; have HB := HB2; clear HB2 hb hbox hg; have hcz0_w4 : w4.cell? ⟨gb, 0, none⟩ = some (.int .u64 a0_0) := (blk_cell BK.out 0).trans rfl; have hcz1_w4 : w4.cell? ⟨gb, 1, none⟩ = some (.int .i64 n0) := (blk_cell BK.out 1).trans rfl; have hfz0_w4 := blk_frozen BK.out 0; have hfz1_w4 := blk_frozen BK.out 1) | (go_at_call 17; (with_reducible refine (label_Right.calls a0_0 n0 true _ A2.out).mono ?_); rintro e w6 ⟨rfl, hb⟩; have HB2 := Aside0.mk (below_step (by repeat (first | (with_reducible first | exact HB.out | apply below_alloc | apply pw_below_drewN | apply below_drew1) | exact HB.out)) hb); have BK2 := Aside0.mk (blk_below (g := gb) (o := .cells #[.int .u64 a0_0, .int .i64 n0] 25 (0, 0)) (by (with_reducible repeat (first | refine blk_drewN ?_ _ | refine blk_drew ?_ | refine blk_alloc ?_ _)); exact BK.out) hb); clear HB BK; have HB := HB2; have BK := BK2; clear HB2 BK2 hb; have hcz0_w6 : w6.cell? ⟨gb, 0, none⟩ = some (.int .u64 a0_0) := (blk_cell BK.out 0).trans rfl; have hcz1_w6 : w6.cell? ⟨gb, 1, none⟩ = some (.int .i64 n0) := (blk_cell BK.out 1).trans rfl; have hfz0_w6 := blk_frozen BK.out 0; have hfz1_w6 := blk_frozen BK.out 1) | ((with_reducible refine gate_dst (N := 3) rfl ?_); refine box_event ?hg (N := 3) ?hd (cs := #[.pointer none, .slice none 0 0]) (t := 53) ?hr ?_; (case hd => rfl); (case hg => rfl); (case hr => first | (go_simp; done) | (go_simp; rfl)); intro gs hgs w7 hbox hb; have HI := Aside0.mk (Tryd.isBuilder_new (T := 53) (e := 5) hbox); have hgs' := Aside0.mk ((by rw [hgs]; exact below_size (by repeat (first | (with_reducible first | exact HB.out | apply below_alloc | apply pw_below_drewN | apply below_drew1) | exact HB.out))) : w.heap.size ≤ gs); have HB2 := Aside0.mk (below_step (by repeat (first | (with_reducible first | exact HB.out | apply below_alloc | apply pw_below_drewN | apply below_drew1) | exact HB.out)) hb); have BK2 := Aside0.mk (blk_below (g := gb) (o := .cells #[.int .u64 a0_0, .int .i64 n0] 25 (0, 0)) (by (with_reducible repeat (first | refine blk_drewN ?_ _ | refine blk_drew ?_ | refine blk_alloc ?_ _)); exact BK.out) hb); clear HB BK; have HB := HB2; have BK := BK2; clear HB2 BK2 hb hbox hgs; have hcz0_w7 : w7.cell? ⟨gb, 0, none⟩ = some (.int .u64 a0_0) := (blk_cell BK.out 0).trans rfl; have hcz1_w7 : w7.cell? ⟨gb, 1, none⟩ = some (.int .i64 n0) := (blk_cell BK.out 1).trans rfl; have hfz0_w7 := blk_frozen BK.out 0; have hfz1_w7 := blk_frozen BK.out 1) | (go_at_call 31; refine (Tryd.strconv_Itoa_small n0 hn0 _).mono ?_; rintro e w' ⟨he, rfl⟩; rw [← hs0.out] at he; subst he) | (go_at_call 30; refine (Tryd.WriteString_k gs gs [] _ _ HI.out (by have := hsz'.out; simp only [List.length_nil, ByteArray.size_append]; show 0 + (s0.size + 1) ≤ _; omega) (Nat.le_of_lt (Tryd.isBuilder_lt HI.out))).mono ?_; rintro e w8 ⟨rfl, hib, hb, hst⟩; have BK2 := Aside0.mk (hst gb _ _ _ (by (with_reducible repeat (first | refine blk_drewN ?_ _ | refine blk_drew ?_ | refine blk_alloc ?_ _)); exact BK.out) (by decide) (by decide)); have HB2 := Aside0.mk (Tryd.below_in (by repeat (first | (with_reducible first | exact HB.out | apply below_alloc | apply pw_below_drewN | apply below_drew1) | exact HB.out)) hb hgs'.out); have HI2 := Aside0.mk hib; clear HB BK HI; have HB := HB2; have BK := BK2; have HI := HI2; clear HB2 BK2 HI2 hb hib hst; have hcz0_w8 : w8.cell? ⟨gb, 0, none⟩ = some (.int .u64 a0_0) := (blk_cell BK.out 0).trans rfl; have hcz1_w8 : w8.cell? ⟨gb, 1, none⟩ = some (.int .i64 n0) := (blk_cell BK.out 1).trans rfl; have hfz0_w8 := blk_frozen BK.out 0; have hfz1_w8 := blk_frozen BK.out 1) | (go_at_call 13; (with_reducible refine (label_Members.calls 10 a0_0 n0 l _ A3.out).mono ?_); rintro e w9 ⟨v0, rfl, hr, hb⟩; obtain ⟨A, c, rfl, hrow⟩ := pw_row hr; have HR := Aside0.mk hrow; have HB2 := Aside0.mk (below_step (by repeat (first | (with_reducible first | exact HB.out | apply below_alloc | apply pw_below_drewN | apply below_drew1) | exact HB.out)) hb); have HI2 := Aside0.mk (Tryd.isBuilder_below HI.out hb); clear HB BK HI; have HB := HB2; have HI := HI2; clear HB2 HI2 hb hr hrow)); try go_wp2_with (first | ((with_reducible refine gate_dst (N := 1) rfl ?_); refine box_event ?hg (N := 1) ?hd (cs := #[.int .u64 a0_0, .int .i64 n0]) (t := 25) ?hr ?_; (case hd => rfl); (case hg => rfl); (case hr => first | (go_simp; done) | (go_simp; rfl)); intro gb hg w4 hbox hb; have BK := Aside0.mk hbox; have HB2 := Aside0.mk (below_step HB.out hb); clear HB; have HB := HB2; clear HB2 hb hbox hg; have hcz0_w4 : w4.cell? ⟨gb, 0, none⟩ = some (.int .u64 a0_0) := (blk_cell BK.out 0).trans rfl; have hcz1_w4 : w4.cell? ⟨gb, 1, none⟩ = some (.int .i64 n0) := (blk_cell BK.out 1).trans rfl; have hfz0_w4 := blk_frozen BK.out 0; have hfz1_w4 := blk_frozen BK.out 1) | (go_at_call 17; (with_reducible refine (label_Right.calls a0_0 n0 true _ A2.out).mono ?_); rintro e w6 ⟨rfl, hb⟩; have HB2 := Aside0.mk (below_step (by repeat (first | (with_reducible first | exact HB.out | apply below_alloc | apply pw_below_drewN | apply below_drew1) | exact HB.out)) hb); have BK2 := Aside0.mk (blk_below (g := gb) (o := .cells #[.int .u64 a0_0, .int .i64 n0] 25 (0, 0)) (by (with_reducible repeat (first | refine blk_drewN ?_ _ | refine blk_drew ?_ | refine blk_alloc ?_ _)); exact BK.out) hb); clear HB BK; have HB := HB2; have BK := BK2; clear HB2 BK2 hb; have hcz0_w6 : w6.cell? ⟨gb, 0, none⟩ = some (.int .u64 a0_0) := (blk_cell BK.out 0).trans rfl; have hcz1_w6 : w6.cell? ⟨gb, 1, none⟩ = some (.int .i64 n0) := (blk_cell BK.out 1).trans rfl; have hfz0_w6 := blk_frozen BK.out 0; have hfz1_w6 := blk_frozen BK.out 1) | ((with_reducible refine gate_dst (N := 3) rfl ?_); refine box_event ?hg (N := 3) ?hd (cs := #[.pointer none, .slice none 0 0]) (t := 53) ?hr ?_; (case hd => rfl); (case hg => rfl); (case hr => first | (go_simp; done) | (go_simp; rfl)); intro gs hgs w7 hbox hb; have HI := Aside0.mk (Tryd.isBuilder_new (T := 53) (e := 5) hbox); have hgs' := Aside0.mk ((by rw [hgs]; exact below_size (by repeat (first | (with_reducible first | exact HB.out | apply below_alloc | apply pw_below_drewN | apply below_drew1) | exact HB.out))) : w.heap.size ≤ gs); have HB2 := Aside0.mk (below_step (by repeat (first | (with_reducible first | exact HB.out | apply below_alloc | apply pw_below_drewN | apply below_drew1) | exact HB.out)) hb); have BK2 := Aside0.mk (blk_below (g := gb) (o := .cells #[.int .u64 a0_0, .int .i64 n0] 25 (0, 0)) (by (with_reducible repeat (first | refine blk_drewN ?_ _ | refine blk_drew ?_ | refine blk_alloc ?_ _)); exact BK.out) hb); clear HB BK; have HB := HB2; have BK := BK2; clear HB2 BK2 hb hbox hgs; have hcz0_w7 : w7.cell? ⟨gb, 0, none⟩ = some (.int .u64 a0_0) := (blk_cell BK.out 0).trans rfl; have hcz1_w7 : w7.cell? ⟨gb, 1, none⟩ = some (.int .i64 n0) := (blk_cell BK.out 1).trans rfl; have hfz0_w7 := blk_frozen BK.out 0; have hfz1_w7 := blk_frozen BK.out 1) | (go_at_call 31; refine (Tryd.strconv_Itoa_small n0 hn0 _).mono ?_; rintro e w' ⟨he, rfl⟩; rw [← hs0.out] at he; subst he) | (go_at_call 30; refine (Tryd.WriteString_k gs gs [] _ _ HI.out (by have := hsz'.out; simp only [List.length_nil, ByteArray.size_append]; show 0 + (s0.size + 1) ≤ _; omega) (Nat.le_of_lt (Tryd.isBuilder_lt HI.out))).mono ?_; rintro e w8 ⟨rfl, hib, hb, hst⟩; have BK2 := Aside0.mk (hst gb _ _ _ (by (with_reducible repeat (first | refine blk_drewN ?_ _ | refine blk_drew ?_ | refine blk_alloc ?_ _)); exact BK.out) (by decide) (by decide)); have HB2 := Aside0.mk (Tryd.below_in (by repeat (first | (with_reducible first | exact HB.out | apply below_alloc | apply pw_below_drewN | apply below_drew1) | exact HB.out)) hb hgs'.out); have HI2 := Aside0.mk hib; clear HB BK HI; have HB := HB2; have BK := BK2; have HI := HI2; clear HB2 BK2 HI2 hb hib hst; have hcz0_w8 : w8.cell? ⟨gb, 0, none⟩ = some (.int .u64 a0_0) := (blk_cell BK.out 0).trans rfl; have hcz1_w8 : w8.cell? ⟨gb, 1, none⟩ = some (.int .i64 n0) := (blk_cell BK.out 1).trans rfl; have hfz0_w8 := blk_frozen BK.out 0; have hfz1_w8 := blk_frozen BK.out 1) | (go_at_call 13; (with_reducible refine (label_Members.calls 10 a0_0 n0 l _ A3.out).mono ?_); rintro e w9 ⟨v0, rfl, hr, hb⟩; obtain ⟨A, c, rfl, hrow⟩ := pw_row hr; have HR := Aside0.mk hrow; have HB2 := Aside0.mk (below_step (by repeat (first | (with_reducible first | exact HB.out | apply below_alloc | apply pw_below_drewN | apply below_drew1) | exact HB.out)) hb); have HI2 := Aside0.mk (Tryd.isBuilder_below HI.out hb); clear HB BK HI; have HB := HB2; have HI := HI2; clear HB2 HI2 hb hr hrow)))
    have HI0 := HI
    clear HI
    go_loopg [17] l.length (fun kq v17 w' => ∃ i : Nat, v17 = .int .i64 (i : Int) ∧ Aside0 (i + kq = l.length) ∧ Aside0 (Lib.IsBuilder 53 5 gs gs (([] ++ Lib.strCells (s0 ++ ⟨#[58]⟩)) ++ Lib.byteCells ((l.take i).flatMap fun x : Int => Lib.decDigits x.toNat)) w') ∧ Aside0 (Tryd.Stays w9 w') ∧ Aside0 (Below w.heap.size w w'))
    case atStart => exact ⟨0, rfl, ⟨by omega⟩, ⟨by simpa [Lib.byteCells] using HI0.out⟩, ⟨Tryd.Stays.refl _⟩, ⟨by repeat (first | (with_reducible first | exact HB.out | apply below_alloc | apply pw_below_drewN | apply below_drew1) | exact HB.out)⟩⟩
    case round =>
      clear HI0 HB
      obtain ⟨i, rfl, HK, HI, HS, HB⟩ := hrel
      by_cases hi : i < l.length
      · obtain ⟨g, cs, rfl, hcs, hc⟩ := HR.out i hi
        have hx := Hl.out.1 l[i] (List.getElem_mem hi)
        obtain ⟨n, hn⟩ : ∃ n : Nat, l[i] = (n : Int) := ⟨l[i].toNat, by omega⟩
        have hn1 : n < 100 := by omega
        have hg := HS.out g cs 3 (0, 0) hcs (by decide) (by decide)
        have hcell0 : wr.cell? ⟨g, i, none⟩ = some (.int .i64 (n : Int)) := by rw [World.cell?_of_block (w := w9) (a := ⟨g, i, none⟩) (by rw [hg, hcs]), hc, hn]
        obtain ⟨k1, rfl⟩ : ∃ k1, gk = k1 + 1 := ⟨gk - 1, by have := HK.out; omega⟩
        have hd := Aside0.mk (pw_digits2 n hn1)
        have hlen := Aside0.mk (pw_flat l (fun x hx => Hl.out.1 x hx) i)
        have hstep := Aside0.mk (pw_step l i hi n hn)
        have hll := Aside0.mk Hl.out.2
        have hi' := Aside0.mk hi
        have c3b0 : decide (i < l.length) = true := decide_eq_true hi
        have c3b1 : decide ((i : Int) < (l.length : Int)) = true := decide_eq_true (by omega)
        have c3b2 := eq_true hi
        clear hx hn hg hcs hc hi
        go_wp2_with (first | (go_at_call 31; refine (Tryd.strconv_Itoa_small n hn1 _).mono ?_; rintro e w' ⟨rfl, rfl⟩) | (go_at_call 30; refine (Tryd.WriteString_k gs gs _ _ _ HI.out (by have h1 := hsz'.out; have h2 := hlen.out; have h3 := hd.out; have h4 := hll.out; have h5 := hi'.out; simp only [List.length_append, Lib.strCells_length, Lib.byteCells_length, ByteArray.size_append, List.length_nil]; show 0 + (s0.size + 1) + _ + (Lib.decDigits n).toArray.size ≤ _; rw [List.size_toArray]; omega) (Nat.le_of_lt (Tryd.isBuilder_lt HI.out))).mono ?_; rintro e w10 ⟨rfl, hib, hb, hst⟩; rw [List.append_assoc, hstep.out] at hib; have HB2 := Aside0.mk (Tryd.below_in (by repeat (first | (with_reducible first | exact HB.out | apply below_alloc | apply pw_below_drewN | apply below_drew1) | exact HB.out)) hb hgs'.out); have HI2 := Aside0.mk hib; have HS2 := Aside0.mk (HS.out.trans hst); clear HB HI HS; have HB := HB2; have HI := HI2; have HS := HS2; clear HB2 HI2 HS2 hb hib hst))
        repeat (go_quiet (first | (go_at_call 31; refine (Tryd.strconv_Itoa_small n hn1 _).mono ?_; rintro e w' ⟨rfl, rfl⟩) | (go_at_call 30; refine (Tryd.WriteString_k gs gs _ _ _ HI.out (by have h1 := hsz'.out; have h2 := hlen.out; have h3 := hd.out; have h4 := hll.out; have h5 := hi'.out; simp only [List.length_append, Lib.strCells_length, Lib.byteCells_length, ByteArray.size_append, List.length_nil]; show 0 + (s0.size + 1) + _ + (Lib.decDigits n).toArray.size ≤ _; rw [List.size_toArray]; omega) (Nat.le_of_lt (Tryd.isBuilder_lt HI.out))).mono ?_; rintro e w10 ⟨rfl, hib, hb, hst⟩; rw [List.append_assoc, hstep.out] at hib; have HB2 := Aside0.mk (Tryd.below_in (by repeat (first | (with_reducible first | exact HB.out | apply below_alloc | apply pw_below_drewN | apply below_drew1) | exact HB.out)) hb hgs'.out); have HI2 := Aside0.mk hib; have HS2 := Aside0.mk (HS.out.trans hst); clear HB HI HS; have HB := HB2; have HI := HI2; have HS := HS2; clear HB2 HI2 HS2 hb hib hst)); try go_wp2_with (first | (go_at_call 31; refine (Tryd.strconv_Itoa_small n hn1 _).mono ?_; rintro e w' ⟨rfl, rfl⟩) | (go_at_call 30; refine (Tryd.WriteString_k gs gs _ _ _ HI.out (by have h1 := hsz'.out; have h2 := hlen.out; have h3 := hd.out; have h4 := hll.out; have h5 := hi'.out; simp only [List.length_append, Lib.strCells_length, Lib.byteCells_length, ByteArray.size_append, List.length_nil]; show 0 + (s0.size + 1) + _ + (Lib.decDigits n).toArray.size ≤ _; rw [List.size_toArray]; omega) (Nat.le_of_lt (Tryd.isBuilder_lt HI.out))).mono ?_; rintro e w10 ⟨rfl, hib, hb, hst⟩; rw [List.append_assoc, hstep.out] at hib; have HB2 := Aside0.mk (Tryd.below_in (by repeat (first | (with_reducible first | exact HB.out | apply below_alloc | apply pw_below_drewN | apply below_drew1) | exact HB.out)) hb hgs'.out); have HI2 := Aside0.mk hib; have HS2 := Aside0.mk (HS.out.trans hst); clear HB HI HS; have HB := HB2; have HI := HI2; have HS := HS2; clear HB2 HI2 HS2 hb hib hst)))
        go_roundg k1
        case measure => have := HK.out; omega
        case rel => exact ⟨i + 1, (by first | rfl | (simp; done) | (simp [wrap64]; have h5 := hi'.out; have h6 := hll.out; omega)), ⟨by have := HK.out; omega⟩, HI, HS, HB⟩
      · have c3b0 : decide (i < l.length) = false := decide_eq_false hi
        have c3b1 : decide ((i : Int) < (l.length : Int)) = false := decide_eq_false (by omega)
        have c3b2 := eq_false hi
        have hi' : i = l.length := by have := HK.out; omega
        have HI2 := HI.out
        rw [hi', List.take_length, List.nil_append, Lib.strCells_eq] at HI2
        have HL : Lib.byteCells (s0 ++ ⟨#[58]⟩).data.toList ++ Lib.byteCells (l.flatMap fun x : Int => Lib.decDigits x.toNat) = Lib.byteCells r.data.toList := by
          rw [← Hr.out, hs0.out]
          simp [Lib.byteCells, ByteArray.data_append]
        rw [HL] at HI2
        have HI3 := Aside0.mk HI2
        clear HI2 HL hi hi' HI
        go_wp2_with (first | (go_at_call 32; refine (Tryd.Builder_String_any gs gs r.data.toList _ HI3.out (Nat.le_of_lt (Tryd.isBuilder_lt HI3.out))).mono ?_; rintro e w11 ⟨rfl, hb⟩; have HB2 := Aside0.mk (Tryd.below_in (by repeat (first | (with_reducible first | exact HB.out | apply below_alloc | apply pw_below_drewN | apply below_drew1) | exact HB.out)) hb hgs'.out); clear HB; have HB := HB2; clear HB2 hb))
        repeat (go_quiet (first | (go_at_call 32; refine (Tryd.Builder_String_any gs gs r.data.toList _ HI3.out (Nat.le_of_lt (Tryd.isBuilder_lt HI3.out))).mono ?_; rintro e w11 ⟨rfl, hb⟩; have HB2 := Aside0.mk (Tryd.below_in (by repeat (first | (with_reducible first | exact HB.out | apply below_alloc | apply pw_below_drewN | apply below_drew1) | exact HB.out)) hb hgs'.out); clear HB; have HB := HB2; clear HB2 hb)); try go_wp2_with (first | (go_at_call 32; refine (Tryd.Builder_String_any gs gs r.data.toList _ HI3.out (Nat.le_of_lt (Tryd.isBuilder_lt HI3.out))).mono ?_; rintro e w11 ⟨rfl, hb⟩; have HB2 := Aside0.mk (Tryd.below_in (by repeat (first | (with_reducible first | exact HB.out | apply below_alloc | apply pw_below_drewN | apply below_drew1) | exact HB.out)) hb hgs'.out); clear HB; have HB := HB2; clear HB2 hb)))
        go_ret
        exact ⟨rfl, by repeat (first | (with_reducible first | exact HB.out | apply below_alloc | apply pw_below_drewN | apply below_drew1) | exact HB.out)⟩

-- NOT PRINTED: function 42 (strconv_syntaxError)

-- NOT PRINTED: function 43 (strconv_rangeError)

-- NOT PRINTED: function 44 (strconv_baseError)

-- NOT PRINTED: function 45 (strconv_bitSizeError)

/-! ### label_Read: function 14 -/
theorem conv_event {P : Program} {ops : Array Oper} {rest : List Oper} {o : Oper} {a : Act} {Q : Exit → Act → World → Prop} {W : World} (hgd : o.guard = none) {N : Tmp} (_hd : o.dst = some N) {src dst e : TypeId} {x : Operand} (s : ByteArray) (ho : o.op = .convert src dst x) (hx : a.eval x = .string s) {u : TypeDesc} (hs : P.underlying src = some u) (hd : P.underlying dst = some (.slice e)) (he : P.underlying e = some (.int .u8))
    (h : ∀ g cap, g = W.heap.size → ∀ w1, (∀ j, j < s.size → w1.cell? ⟨g, j, none⟩ = some (.int .u8 (s.data.toList.getD j 0).toNat)) → w1.heap.size = g + 1 → Below W.heap.size W w1 → wpList P ops Q rest (a.put o.dst (.slice (some ⟨g, 0, none⟩) s.size cap)) w1) : wpList P ops Q (o :: rest) a W := by
  refine Kd.event_run (W := W) (w1 := Lib.bytesWorld W e s) (v := .slice (some ⟨W.heap.size, 0, none⟩) s.size (grownCap W s.size 0 e)) hgd ?_ (h _ _ rfl _ (fun j hj => Lib.bytesWorld_cell W e s j hj) (Lib.bytesWorld_size W e s) ?_)
  · unfold execOp
    simp only [ho, hx, Sem.run_bind, Sem.run_pure, Result.andThen_ok, Lib.run_convert_string_bytes W src dst e s hs hd he]
  · exact ⟨rfl, rfl, rfl, by rw [Lib.bytesWorld_size]; omega, fun i hi => Lib.bytesWorld_at_old W e s i hi⟩
set_option maxHeartbeats 2000000 in
set_option maxRecDepth 100000 in
theorem atoi_in (d : UInt8) (hd : d = 48 ∨ d = 49 ∨ d = 50 ∨ d = 51 ∨ d = 52 ∨ d = 53 ∨ d = 54 ∨ d = 55 ∨ d = 56 ∨ d = 57) (w : World) :
    Calls Tryd.prog 36 #[.string ⟨#[d]⟩] w fun e w' => e = .returned (.tuple #[.int .i64 ((d.toNat : Int) - 48), .nilIface]) ∧ Below w.heap.size w w' := by
  have HB := Aside0.mk (Below.refl w.heap.size w)
  rcases hd with rfl | rfl | rfl | rfl | rfl | rfl | rfl | rfl | rfl | rfl
  all_goals
    go_enter Tryd.func36, Tryd.ntmps36
    go_wp2_with (first | ((with_reducible refine gate_dst (N := 47) rfl ?_); refine conv_event rfl (N := 47) rfl _ rfl rfl Tryd.underlying9 Tryd.underlying46 Tryd.underlying5 ?_; intro g cap hg w4 hcs hsz hb; have hc0 := hcs 0 (by decide); have HB2 := Aside0.mk (below_step (by repeat (first | (with_reducible first | exact HB.out | apply below_alloc | apply pw_below_drewN | apply below_drew1) | exact HB.out)) hb); clear HB; have HB := HB2; clear HB2 hb hcs hsz hg))
    refine wp_loop_rounds 2 ?_
    rw [rounds_succ]
    go_wp2
    repeat (go_quiet (fail); try go_wp2)
    rw [rounds_succ]
    go_wp2
    repeat (go_quiet (fail); try go_wp2)
    go_ret2
    exact ⟨rfl, by repeat (first | (with_reducible first | exact HB.out | apply below_alloc | apply pw_below_drewN | apply below_drew1) | exact HB.out)⟩
set_option maxHeartbeats 2000000 in
set_option maxRecDepth 100000 in
theorem atoi_one (d : UInt8) (hd : d = 48 ∨ d = 49 ∨ d = 50 ∨ d = 51 ∨ d = 52 ∨ d = 53 ∨ d = 54 ∨ d = 55 ∨ d = 56 ∨ d = 57) (w : World) :
    Calls Tryd.prog 29 #[.string ⟨#[d]⟩] w fun e w' => e = .returned (.tuple #[.int .i64 ((d.toNat : Int) - 48), .nilIface]) ∧ Below w.heap.size w w' := by
  have HB := Aside0.mk (Below.refl w.heap.size w)
  have hd' := Aside0.mk hd
  clear hd
  go_enter Tryd.func29, Tryd.ntmps29
  go_wp2_with (first | (go_at_call 36; (with_reducible refine (atoi_in d hd'.out _).mono ?_); rintro e w4 ⟨rfl, hb⟩; have HB2 := Aside0.mk (below_step (by repeat (first | (with_reducible first | exact HB.out | apply below_alloc | apply pw_below_drewN | apply below_drew1) | exact HB.out)) hb); clear HB; have HB := HB2; clear HB2 hb))
  repeat (go_quiet (first | (go_at_call 36; (with_reducible refine (atoi_in d hd'.out _).mono ?_); rintro e w4 ⟨rfl, hb⟩; have HB2 := Aside0.mk (below_step (by repeat (first | (with_reducible first | exact HB.out | apply below_alloc | apply pw_below_drewN | apply below_drew1) | exact HB.out)) hb); clear HB; have HB := HB2; clear HB2 hb)); try go_wp2_with (first | (go_at_call 36; (with_reducible refine (atoi_in d hd'.out _).mono ?_); rintro e w4 ⟨rfl, hb⟩; have HB2 := Aside0.mk (below_step (by repeat (first | (with_reducible first | exact HB.out | apply below_alloc | apply pw_below_drewN | apply below_drew1) | exact HB.out)) hb); clear HB; have HB := HB2; clear HB2 hb)))
  go_ret2
  exact ⟨rfl, by repeat (first | (with_reducible first | exact HB.out | apply below_alloc | apply pw_below_drewN | apply below_drew1) | exact HB.out)⟩
set_option maxHeartbeats 2000000 in
set_option maxRecDepth 100000 in
theorem cut_in (s : ByteArray) (d : UInt8) (rest : List UInt8) (hs : s.data.toList = d :: 58 :: rest) (hd : d ≠ 58) (hz : s.size ≤ 9223372036854775807) (w : World) :
    Calls Tryd.prog 35 #[.string s, .string ⟨#[58]⟩] w fun e w' => e = .returned (.tuple #[.string (s.extract 0 1), .string (s.extract 2 s.size), .bool true]) ∧ Below w.heap.size w w' := by
  have HB := Aside0.mk (Below.refl w.heap.size w)
  have hi : Lib.indexByte s.data.toList 58 = 1 := by rw [hs]; simp [Lib.indexByte, hd]
  have hsz : s.size = rest.length + 2 := by
    show s.data.size = _
    rw [← Array.length_toList, hs]
    rfl
  have hi' := Aside0.mk hi
  have c1 : (1 : Int) ≤ (s.size : Int) := by omega
  have c2 : (2 : Int) ≤ (s.size : Int) := by omega
  have mixed : Tryd.prog.follows .mixedOrders = true := by kernel_rfl
  have w2 : IntKind.i64.wrap 2 = 2 := by decide
  clear hi hs hz hd hsz
  go_enter Tryd.func35, Tryd.ntmps35
  go_wp2_with (first | (go_at_call 40; refine (Tryd.stringslite_Index_one _ 58 _).mono ?_; rintro e w4 ⟨he, rfl⟩; rw [hi'.out] at he; subst he))
  go_region_o
  go_wp2
  go_ret3
  exact ⟨rfl, by repeat (first | (with_reducible first | exact HB.out | apply below_alloc | apply pw_below_drewN | apply below_drew1) | exact HB.out)⟩
set_option maxHeartbeats 2000000 in
set_option maxRecDepth 100000 in
theorem cut_out (s : ByteArray) (d : UInt8) (rest : List UInt8) (hs : s.data.toList = d :: 58 :: rest) (hd : d ≠ 58) (hz : s.size ≤ 9223372036854775807) (w : World) :
    Calls Tryd.prog 28 #[.string s, .string ⟨#[58]⟩] w fun e w' => e = .returned (.tuple #[.string (s.extract 0 1), .string (s.extract 2 s.size), .bool true]) ∧ Below w.heap.size w w' := by
  have hs' := Aside0.mk hs
  have hd' := Aside0.mk hd
  have hz' := Aside0.mk hz
  clear hs hd hz
  go_enter Tryd.func28, Tryd.ntmps28
  go_wp2_with (first | (go_at_call 35; refine (cut_in s d rest hs'.out hd'.out hz'.out _).mono ?_; rintro e w4 ⟨rfl, hb⟩; have HB := Aside0.mk hb; clear hb))
  go_ret3
  exact ⟨rfl, by repeat (first | (with_reducible first | exact HB.out | apply below_alloc | apply pw_below_drewN | apply below_drew1) | exact HB.out)⟩
def label_readSet : List UInt8 → Int → Option Int
  | [], a => some a
  | c :: t, a => (label_bit.f (wrap64 (Go.bits .and .u8 (c.toNat : Int) 7))).bind fun b => label_readSet t (Go.bits .or .u64 a b)
def label_Read.f (s : ByteArray) : Option (Int × Int × Int) :=
  match s.data.toList with
  | d :: c :: rest => if c = 58 ∧ (d = 48 ∨ d = 49 ∨ d = 50 ∨ d = 51 ∨ d = 52 ∨ d = 53 ∨ d = 54 ∨ d = 55 ∨ d = 56 ∨ d = 57) ∧ rest.length < 1000000 then (label_readSet rest 0).bind fun set => (label_Print.f set ((d.toNat : Int) - 48)).bind fun p => (if p = s then some (set, (d.toNat : Int) - 48, 0) else some (0, 0, 2)) else none
  | _ => none
theorem cut_colon (s : ByteArray) (d : UInt8) (rest : List UInt8) (hs : s.data.toList = d :: 58 :: rest) (hd : d ≠ 58) (hz : s.size ≤ 9223372036854775807) (w : World) :
    Calls Tryd.prog 28 #[.string s, .string ⟨#[58]⟩] w fun e w' => e = .returned (.tuple #[.string ⟨#[d]⟩, .string ⟨rest.toArray⟩, .bool true]) ∧ Below w.heap.size w w' := by
  have h0 : s.data = (d :: 58 :: rest).toArray := by rw [← hs]
  have h1 : s.extract 0 1 = ⟨#[d]⟩ := by apply ByteArray.ext; rw [ByteArray.data_extract, h0]; simp
  have h2 : s.extract 2 s.size = ⟨rest.toArray⟩ := by apply ByteArray.ext; rw [ByteArray.data_extract, h0]; simp [ByteArray.size, h0]
  have h := cut_out s d rest hs hd hz w
  rw [h1, h2] at h
  exact h
set_option maxHeartbeats 4000000 in
set_option maxRecDepth 100000 in
theorem label_Read.calls (s : ByteArray) (r1 r2 r3 : Int) (w : World) (h : label_Read.f s = some (r1, r2, r3)) :
    Calls Tryd.prog 14 #[.string s] w fun e w' => e = .returned (.tuple #[.agg #[.int .u64 r1, .int .i64 r2], .int .i64 r3]) ∧ Below w.heap.size w w' := by
  have hu25 := Tryd.underlying25
  unfold label_Read.f at h
  generalize hs : s.data.toList = ls at h
  rcases ls with _ | ⟨d, _ | ⟨c, rest⟩⟩
  · exact absurd h (by simp)
  · exact absurd h (by simp)
  by_cases hc : c = 58 ∧ (d = 48 ∨ d = 49 ∨ d = 50 ∨ d = 51 ∨ d = 52 ∨ d = 53 ∨ d = 54 ∨ d = 55 ∨ d = 56 ∨ d = 57) ∧ rest.length < 1000000
  case neg => simp only [hc, if_false] at h; exact absurd h (by simp)
  obtain ⟨rfl, hd, hl⟩ := hc
  simp only [hd, hl, and_self, if_true] at h
  obtain ⟨set, A1_, H0⟩ := Option.bind_eq_some_iff.mp h
  obtain ⟨p, A2_, H⟩ := Option.bind_eq_some_iff.mp H0
  clear H0
  have hd58 : d ≠ 58 := by rintro rfl; revert hd; decide
  have hsz : s.size = rest.length + 2 := by show s.data.size = _; rw [← Array.length_toList, hs]; rfl
  have Hs := Aside0.mk hs
  have Hd := Aside0.mk hd
  have Hd58 := Aside0.mk hd58
  have Hsz := Aside0.mk hsz
  have Hl := Aside0.mk hl
  have A1 := Aside0.mk A1_
  have A2 := Aside0.mk A2_
  have H' := Aside0.mk H
  have mixed : Tryd.prog.follows .mixedOrders = true := by kernel_rfl
  obtain ⟨m, hm⟩ : ∃ m : ByteArray, m = (⟨rest.toArray⟩ : ByteArray) := ⟨_, rfl⟩
  have Hm := Aside0.mk hm
  obtain ⟨n0, hn0⟩ : ∃ n0 : Int, (d.toNat : Int) - 48 = n0 := ⟨_, rfl⟩
  have Hn := Aside0.mk hn0
  clear h H hs hd hd58 hsz hl A1_ A2_ hm hn0
  have HB := Aside0.mk (Below.refl w.heap.size w)
  go_enter Tryd.func14, Tryd.ntmps14
  go_wp2_with (first | ((with_reducible refine gate_dst (N := 2) rfl ?_); refine box_event ?hg (N := 2) ?hd (cs := #[.int .u64 0, .int .i64 0]) (t := 25) ?hr ?_; (case hd => rfl); (case hg => rfl); (case hr => first | (go_simp; done) | (go_simp; rfl)); intro gr hgs w4 hbox hb; have GR := Aside0.mk ((by rw [hgs]; exact below_size (by repeat (first | (with_reducible first | exact HB.out | apply below_alloc | apply pw_below_drewN | apply below_drew1) | exact HB.out))) : w.heap.size ≤ gr); have HB2 := Aside0.mk (below_step (by repeat (first | (with_reducible first | exact HB.out | apply below_alloc | apply pw_below_drewN | apply below_drew1) | exact HB.out)) hb); clear HB; have HB := HB2; have BKgr := Aside0.mk hbox; clear HB2 hb hbox hgs) | (go_at_call 28; refine (cut_colon s d rest Hs.out Hd58.out (by have := Hsz.out; have := Hl.out; omega) _).mono ?_; rintro e w5 ⟨he, hb⟩; rw [← Hm.out] at he; subst he; have BK2gr := Aside0.mk (blk_below (g := gr) (o := .cells #[.int .u64 0, .int .i64 0] 25 (0, 0)) (by (with_reducible repeat (first | refine blk_drewN ?_ _ | refine blk_drew ?_ | refine blk_alloc ?_ _)); exact BKgr.out) hb); clear BKgr; have BKgr := BK2gr; clear BK2gr; have HB2 := Aside0.mk (below_step (by repeat (first | (with_reducible first | exact HB.out | apply below_alloc | apply pw_below_drewN | apply below_drew1) | exact HB.out)) hb); clear HB; have HB := HB2; clear HB2 hb) | ((with_reducible refine gate_dst (N := 7) rfl ?_); refine box_event ?hg (N := 7) ?hd (cs := #[.int .u64 0, .int .i64 0]) (t := 25) ?hr ?_; (case hd => rfl); (case hg => rfl); (case hr => first | (go_simp; done) | (go_simp; rfl)); intro go hgs w6 hbox hb; have GO := Aside0.mk ((by rw [hgs]; exact below_size (by repeat (first | (with_reducible first | exact HB.out | apply below_alloc | apply pw_below_drewN | apply below_drew1) | exact HB.out))) : w.heap.size ≤ go); have HB2 := Aside0.mk (below_step (by repeat (first | (with_reducible first | exact HB.out | apply below_alloc | apply pw_below_drewN | apply below_drew1) | exact HB.out)) hb); have GRO := Aside0.mk ((by rw [hgs]; exact blk_lt (by (with_reducible repeat (first | refine blk_drewN ?_ _ | refine blk_drew ?_ | refine blk_alloc ?_ _)); exact BKgr.out)) : gr < go); have BK2gr := Aside0.mk (blk_below (g := gr) (o := .cells #[.int .u64 0, .int .i64 0] 25 (0, 0)) (by (with_reducible repeat (first | refine blk_drewN ?_ _ | refine blk_drew ?_ | refine blk_alloc ?_ _)); exact BKgr.out) hb); clear BKgr; have BKgr := BK2gr; clear BK2gr; clear HB; have HB := HB2; have BKgo := Aside0.mk hbox; clear HB2 hb hbox hgs) | ((with_reducible refine gate_dst (N := 17) rfl ?_); refine conv_event rfl (N := 17) rfl _ rfl rfl Tryd.underlying9 Tryd.underlying46 Tryd.underlying5 ?_; intro gc cap hgc w7 hcs hsz hb; have HNE := Aside0.mk ((by rw [hgc]; exact Nat.ne_of_lt (blk_lt (by (with_reducible repeat (first | refine blk_drewN ?_ _ | refine blk_drew ?_ | refine blk_alloc ?_ _)); exact BKgo.out))) : go ≠ gc); have HNR := Aside0.mk ((by have := blk_lt BKgo.out; exact Nat.ne_of_gt GRO.out) : go ≠ gr); have BK2gr := Aside0.mk (blk_below (g := gr) (o := .cells #[.int .u64 0, .int .i64 0] 25 (0, 0)) (by (with_reducible repeat (first | refine blk_drewN ?_ _ | refine blk_drew ?_ | refine blk_alloc ?_ _)); exact BKgr.out) hb); clear BKgr; have BKgr := BK2gr; clear BK2gr; have BK2go := Aside0.mk (blk_below (g := go) (o := .cells #[.int .u64 0, .int .i64 0] 25 (0, 0)) (by (with_reducible repeat (first | refine blk_drewN ?_ _ | refine blk_drew ?_ | refine blk_alloc ?_ _)); exact BKgo.out) hb); clear BKgo; have BKgo := BK2go; clear BK2go; have HB2 := Aside0.mk (below_step (by repeat (first | (with_reducible first | exact HB.out | apply below_alloc | apply pw_below_drewN | apply below_drew1) | exact HB.out)) hb); have HCS := Aside0.mk hcs; clear HB; have HB := HB2; clear HB2 hb hcs hsz hgc))
  repeat (go_quiet (first | ((with_reducible refine gate_dst (N := 2) rfl ?_); refine box_event ?hg (N := 2) ?hd (cs := #[.int .u64 0, .int .i64 0]) (t := 25) ?hr ?_; (case hd => rfl); (case hg => rfl); (case hr => first | (go_simp; done) | (go_simp; rfl)); intro gr hgs w4 hbox hb; have GR := Aside0.mk ((by rw [hgs]; exact below_size (by repeat (first | (with_reducible first | exact HB.out | apply below_alloc | apply pw_below_drewN | apply below_drew1) | exact HB.out))) : w.heap.size ≤ gr); have HB2 := Aside0.mk (below_step (by repeat (first | (with_reducible first | exact HB.out | apply below_alloc | apply pw_below_drewN | apply below_drew1) | exact HB.out)) hb); clear HB; have HB := HB2; have BKgr := Aside0.mk hbox; clear HB2 hb hbox hgs) | (go_at_call 28; refine (cut_colon s d rest Hs.out Hd58.out (by have := Hsz.out; have := Hl.out; omega) _).mono ?_; rintro e w5 ⟨he, hb⟩; rw [← Hm.out] at he; subst he; have BK2gr := Aside0.mk (blk_below (g := gr) (o := .cells #[.int .u64 0, .int .i64 0] 25 (0, 0)) (by (with_reducible repeat (first | refine blk_drewN ?_ _ | refine blk_drew ?_ | refine blk_alloc ?_ _)); exact BKgr.out) hb); clear BKgr; have BKgr := BK2gr; clear BK2gr; have HB2 := Aside0.mk (below_step (by repeat (first | (with_reducible first | exact HB.out | apply below_alloc | apply pw_below_drewN | apply below_drew1) | exact HB.out)) hb); clear HB; have HB := HB2; clear HB2 hb) | ((with_reducible refine gate_dst (N := 7) rfl ?_); refine box_event ?hg (N := 7) ?hd (cs := #[.int .u64 0, .int .i64 0]) (t := 25) ?hr ?_; (case hd => rfl); (case hg => rfl); (case hr => first | (go_simp; done) | (go_simp; rfl)); intro go hgs w6 hbox hb; have GO := Aside0.mk ((by rw [hgs]; exact below_size (by repeat (first | (with_reducible first | exact HB.out | apply below_alloc | apply pw_below_drewN | apply below_drew1) | exact HB.out))) : w.heap.size ≤ go); have HB2 := Aside0.mk (below_step (by repeat (first | (with_reducible first | exact HB.out | apply below_alloc | apply pw_below_drewN | apply below_drew1) | exact HB.out)) hb); have GRO := Aside0.mk ((by rw [hgs]; exact blk_lt (by (with_reducible repeat (first | refine blk_drewN ?_ _ | refine blk_drew ?_ | refine blk_alloc ?_ _)); exact BKgr.out)) : gr < go); have BK2gr := Aside0.mk (blk_below (g := gr) (o := .cells #[.int .u64 0, .int .i64 0] 25 (0, 0)) (by (with_reducible repeat (first | refine blk_drewN ?_ _ | refine blk_drew ?_ | refine blk_alloc ?_ _)); exact BKgr.out) hb); clear BKgr; have BKgr := BK2gr; clear BK2gr; clear HB; have HB := HB2; have BKgo := Aside0.mk hbox; clear HB2 hb hbox hgs) | ((with_reducible refine gate_dst (N := 17) rfl ?_); refine conv_event rfl (N := 17) rfl _ rfl rfl Tryd.underlying9 Tryd.underlying46 Tryd.underlying5 ?_; intro gc cap hgc w7 hcs hsz hb; have HNE := Aside0.mk ((by rw [hgc]; exact Nat.ne_of_lt (blk_lt (by (with_reducible repeat (first | refine blk_drewN ?_ _ | refine blk_drew ?_ | refine blk_alloc ?_ _)); exact BKgo.out))) : go ≠ gc); have HNR := Aside0.mk ((by have := blk_lt BKgo.out; exact Nat.ne_of_gt GRO.out) : go ≠ gr); have BK2gr := Aside0.mk (blk_below (g := gr) (o := .cells #[.int .u64 0, .int .i64 0] 25 (0, 0)) (by (with_reducible repeat (first | refine blk_drewN ?_ _ | refine blk_drew ?_ | refine blk_alloc ?_ _)); exact BKgr.out) hb); clear BKgr; have BKgr := BK2gr; clear BK2gr; have BK2go := Aside0.mk (blk_below (g := go) (o := .cells #[.int .u64 0, .int .i64 0] 25 (0, 0)) (by (with_reducible repeat (first | refine blk_drewN ?_ _ | refine blk_drew ?_ | refine blk_alloc ?_ _)); exact BKgo.out) hb); clear BKgo; have BKgo := BK2go; clear BK2go; have HB2 := Aside0.mk (below_step (by repeat (first | (with_reducible first | exact HB.out | apply below_alloc | apply pw_below_drewN | apply below_drew1) | exact HB.out)) hb); have HCS := Aside0.mk hcs; clear HB; have HB := HB2; clear HB2 hb hcs hsz hgc)); try go_wp2_with (first | ((with_reducible refine gate_dst (N := 2) rfl ?_); refine box_event ?hg (N := 2) ?hd (cs := #[.int .u64 0, .int .i64 0]) (t := 25) ?hr ?_; (case hd => rfl); (case hg => rfl); (case hr => first | (go_simp; done) | (go_simp; rfl)); intro gr hgs w4 hbox hb; have GR := Aside0.mk ((by rw [hgs]; exact below_size (by repeat (first | (with_reducible first | exact HB.out | apply below_alloc | apply pw_below_drewN | apply below_drew1) | exact HB.out))) : w.heap.size ≤ gr); have HB2 := Aside0.mk (below_step (by repeat (first | (with_reducible first | exact HB.out | apply below_alloc | apply pw_below_drewN | apply below_drew1) | exact HB.out)) hb); clear HB; have HB := HB2; have BKgr := Aside0.mk hbox; clear HB2 hb hbox hgs) | (go_at_call 28; refine (cut_colon s d rest Hs.out Hd58.out (by have := Hsz.out; have := Hl.out; omega) _).mono ?_; rintro e w5 ⟨he, hb⟩; rw [← Hm.out] at he; subst he; have BK2gr := Aside0.mk (blk_below (g := gr) (o := .cells #[.int .u64 0, .int .i64 0] 25 (0, 0)) (by (with_reducible repeat (first | refine blk_drewN ?_ _ | refine blk_drew ?_ | refine blk_alloc ?_ _)); exact BKgr.out) hb); clear BKgr; have BKgr := BK2gr; clear BK2gr; have HB2 := Aside0.mk (below_step (by repeat (first | (with_reducible first | exact HB.out | apply below_alloc | apply pw_below_drewN | apply below_drew1) | exact HB.out)) hb); clear HB; have HB := HB2; clear HB2 hb) | ((with_reducible refine gate_dst (N := 7) rfl ?_); refine box_event ?hg (N := 7) ?hd (cs := #[.int .u64 0, .int .i64 0]) (t := 25) ?hr ?_; (case hd => rfl); (case hg => rfl); (case hr => first | (go_simp; done) | (go_simp; rfl)); intro go hgs w6 hbox hb; have GO := Aside0.mk ((by rw [hgs]; exact below_size (by repeat (first | (with_reducible first | exact HB.out | apply below_alloc | apply pw_below_drewN | apply below_drew1) | exact HB.out))) : w.heap.size ≤ go); have HB2 := Aside0.mk (below_step (by repeat (first | (with_reducible first | exact HB.out | apply below_alloc | apply pw_below_drewN | apply below_drew1) | exact HB.out)) hb); have GRO := Aside0.mk ((by rw [hgs]; exact blk_lt (by (with_reducible repeat (first | refine blk_drewN ?_ _ | refine blk_drew ?_ | refine blk_alloc ?_ _)); exact BKgr.out)) : gr < go); have BK2gr := Aside0.mk (blk_below (g := gr) (o := .cells #[.int .u64 0, .int .i64 0] 25 (0, 0)) (by (with_reducible repeat (first | refine blk_drewN ?_ _ | refine blk_drew ?_ | refine blk_alloc ?_ _)); exact BKgr.out) hb); clear BKgr; have BKgr := BK2gr; clear BK2gr; clear HB; have HB := HB2; have BKgo := Aside0.mk hbox; clear HB2 hb hbox hgs) | ((with_reducible refine gate_dst (N := 17) rfl ?_); refine conv_event rfl (N := 17) rfl _ rfl rfl Tryd.underlying9 Tryd.underlying46 Tryd.underlying5 ?_; intro gc cap hgc w7 hcs hsz hb; have HNE := Aside0.mk ((by rw [hgc]; exact Nat.ne_of_lt (blk_lt (by (with_reducible repeat (first | refine blk_drewN ?_ _ | refine blk_drew ?_ | refine blk_alloc ?_ _)); exact BKgo.out))) : go ≠ gc); have HNR := Aside0.mk ((by have := blk_lt BKgo.out; exact Nat.ne_of_gt GRO.out) : go ≠ gr); have BK2gr := Aside0.mk (blk_below (g := gr) (o := .cells #[.int .u64 0, .int .i64 0] 25 (0, 0)) (by (with_reducible repeat (first | refine blk_drewN ?_ _ | refine blk_drew ?_ | refine blk_alloc ?_ _)); exact BKgr.out) hb); clear BKgr; have BKgr := BK2gr; clear BK2gr; have BK2go := Aside0.mk (blk_below (g := go) (o := .cells #[.int .u64 0, .int .i64 0] 25 (0, 0)) (by (with_reducible repeat (first | refine blk_drewN ?_ _ | refine blk_drew ?_ | refine blk_alloc ?_ _)); exact BKgo.out) hb); clear BKgo; have BKgo := BK2go; clear BK2go; have HB2 := Aside0.mk (below_step (by repeat (first | (with_reducible first | exact HB.out | apply below_alloc | apply pw_below_drewN | apply below_drew1) | exact HB.out)) hb); have HCS := Aside0.mk hcs; clear HB; have HB := HB2; clear HB2 hb hcs hsz hgc)))
  go_loopg [19] rest.length (fun kq v19 w' => ∃ (i : Nat) (acc : Int), v19 = .int .i64 (i : Int) ∧ Aside0 (i + kq = rest.length) ∧ Aside0 (label_readSet (rest.drop i) acc = some set) ∧ Aside0 (w'.heap[go]? = some (.cells #[.int .u64 acc, .int .i64 0] 25 (0, 0))) ∧ Aside0 (w'.heap[gr]? = some (.cells #[.int .u64 0, .int .i64 0] 25 (0, 0))) ∧ Aside0 (∀ j, j < m.size → w'.cell? ⟨gc, j, none⟩ = some (.int .u8 (m.data.toList.getD j 0).toNat)) ∧ Aside0 (Below w.heap.size w w'))
  case atStart => exact ⟨0, 0, rfl, ⟨by omega⟩, A1, ⟨by (with_reducible repeat (first | refine blk_drewN ?_ _ | refine blk_drew ?_ | refine blk_alloc ?_ _)); exact BKgo.out⟩, ⟨by (with_reducible repeat (first | refine blk_drewN ?_ _ | refine blk_drew ?_ | refine blk_alloc ?_ _)); exact BKgr.out⟩, ⟨HCS.out⟩, ⟨by repeat (first | (with_reducible first | exact HB.out | apply below_alloc | apply pw_below_drewN | apply below_drew1 | refine below_set ?_ GO.out | refine below_set ?_ GR.out) | exact HB.out)⟩⟩
  case round =>
    clear HB BKgo BKgr HCS A1
    obtain ⟨i, acc, rfl, HK, A1, BKgo, BKgr, HCS, HB⟩ := hrel
    by_cases hi : i < rest.length
    · obtain ⟨k1, rfl⟩ : ∃ k1, gk = k1 + 1 := ⟨gk - 1, by have := HK.out; omega⟩
      have hA0 := A1.out
      rw [List.drop_eq_getElem_cons hi] at hA0
      obtain ⟨b, hb_, hA⟩ := Option.bind_eq_some_iff.mp hA0
      clear hA0
      have hms : m.size = rest.length := by rw [Hm.out]; show rest.toArray.size = _; exact List.size_toArray
      have hcell := HCS.out i (by omega)
      have hget : m.data.toList.getD i 0 = rest[i] := by rw [Hm.out]; simp [hi]
      rw [hget] at hcell
      obtain ⟨cn, hcn⟩ : ∃ cn : Int, cn = (rest[i].toNat : Int) := ⟨_, rfl⟩
      rw [← hcn] at hcell hb_
      have AB : Aside0 (label_bit.f (wrap64 (Go.bits .and .u8 cn 7)) = some b) := ⟨hb_⟩
      have A1' : Aside0 (label_readSet (rest.drop (i + 1)) (Go.bits .or .u64 acc b) = some set) := ⟨hA⟩
      have hms' := Aside0.mk hms
      have hi' : Aside0 (i < rest.length) := ⟨hi⟩
      have c3b0 : decide (i < m.size) = true := decide_eq_true (by omega)
      have c3b1 : decide ((i : Int) < (m.size : Int)) = true := decide_eq_true (by omega)
      have c3b2 : (i < m.size) = True := eq_true (by omega)
      have hcz0 : wr.cell? ⟨go, 0, none⟩ = some (.int .u64 acc) := (blk_cell BKgo.out 0).trans rfl
      have hfz0 := blk_frozen BKgo.out 0
      clear hA
      clear A1 hb_ hget hcn hi hms
      go_wp2_with (first | (go_at_call 27; (with_reducible refine (label_bit.calls _ b _ AB.out).mono ?_); rintro e w' ⟨rfl, ⟨nd, rfl⟩⟩; (try first | exact ⟨rfl, _, World.drewN_drewN _ _ _⟩ | exact ⟨rfl, _, Eq.trans (World.drewN_drewN _ _ _) (congrArg (World.drewN _) (Nat.add_assoc _ _ _))⟩)))
      repeat (go_quiet (first | (go_at_call 27; (with_reducible refine (label_bit.calls _ b _ AB.out).mono ?_); rintro e w' ⟨rfl, ⟨nd, rfl⟩⟩; (try first | exact ⟨rfl, _, World.drewN_drewN _ _ _⟩ | exact ⟨rfl, _, Eq.trans (World.drewN_drewN _ _ _) (congrArg (World.drewN _) (Nat.add_assoc _ _ _))⟩))); try go_wp2_with (first | (go_at_call 27; (with_reducible refine (label_bit.calls _ b _ AB.out).mono ?_); rintro e w' ⟨rfl, ⟨nd, rfl⟩⟩; (try first | exact ⟨rfl, _, World.drewN_drewN _ _ _⟩ | exact ⟨rfl, _, Eq.trans (World.drewN_drewN _ _ _) (congrArg (World.drewN _) (Nat.add_assoc _ _ _))⟩))))
      refine start_ (n := 9) (S := fun w' => w'.cell? ⟨go, 0, none⟩ = some (.int .u64 acc) ∧ w'.heap[go]? = some (.cells #[.int .u64 acc, .int .i64 0] 25 (0, 0)) ∧ w'.heap[gr]? = some (.cells #[.int .u64 0, .int .i64 0] 25 (0, 0)) ∧ (∀ j, j < m.size → w'.cell? ⟨gc, j, none⟩ = some (.int .u8 (m.data.toList.getD j 0).toNat))) (ds := [8]) #[false, false, false, false, false, false, false, false, false] (by kernel_rfl) rfl rfl ⟨hcz0, BKgo.out, BKgr.out, HCS.out⟩ (fun hHeld => ?_)
      refine pure_ (i := 0) (N := some 23) (v := ?_) (a' := ?_) #[true, false, false, false, false, false, false, false, false] rfl rfl (by kernel_rfl) (fun _ _ _ h => h) (Or.inl ⟨by rfl, ?_⟩) ?_ ?_
      rotate_left
      · intro w'
        go_simp
        with_reducible rfl
      rotate_left
      · simp only [Act.put, List.setIfInBounds_toArray, List.set_cons_zero, List.set_cons_succ, i64_w, i32_w]
        rfl
      refine pure_ (i := 2) (N := some 25) (v := ?_) (a' := ?_) #[true, false, true, false, false, false, false, false, false] rfl rfl (by kernel_rfl) (fun _ _ _ h => h) (Or.inl ⟨by rfl, ?_⟩) ?_ ?_
      rotate_left
      · intro w'
        go_simp
        with_reducible rfl
      rotate_left
      · simp only [Act.put, List.setIfInBounds_toArray, List.set_cons_zero, List.set_cons_succ, i64_w, i32_w]
        rfl
      refine pure_ (i := 3) (N := some 26) (v := ?_) (a' := ?_) #[true, false, true, true, false, false, false, false, false] rfl rfl (by kernel_rfl) (fun _ _ _ h => h) (Or.inl ⟨by rfl, ?_⟩) ?_ ?_
      rotate_left
      · intro w'
        go_simp
        with_reducible rfl
      rotate_left
      · simp only [Act.put, List.setIfInBounds_toArray, List.set_cons_zero, List.set_cons_succ, i64_w, i32_w]
        rfl
      refine pure_ (i := 4) (N := some 27) (v := ?_) (a' := ?_) #[true, false, true, true, true, false, false, false, false] rfl rfl (by kernel_rfl) (fun _ _ _ h => h) (Or.inl ⟨by rfl, ?_⟩) ?_ ?_
      rotate_left
      · intro w'
        go_simp
        with_reducible rfl
      rotate_left
      · simp only [Act.put, List.setIfInBounds_toArray, List.set_cons_zero, List.set_cons_succ, i64_w, i32_w]
        rfl
      refine take_ (i := 1) (N := some 24) (v := ?_) (a' := ?_) #[true, true, true, true, true, false, false, false, false] rfl rfl (by kernel_rfl) (fun _ _ _ h => h) (Or.inl ⟨by rfl, ?_⟩) hHeld ?_ ?_
      rotate_left
      · rintro w' ⟨s0, s1, s2, s3⟩
        go_simp
        with_reducible rfl
      rotate_left
      · simp only [Act.put, List.setIfInBounds_toArray, List.set_cons_zero, List.set_cons_succ, i64_w, i32_w]
        rfl
      refine one_ (i := 5) (N := some 28) #[true, true, true, true, true, true, false, false, false] rfl rfl (by kernel_rfl) (by decide) (fun K hK => ?_)
      refine goes_ Tryd.func27 (by kernel_rfl) rfl #[.int .i64 (wrap64 (Go.bits .and .u8 cn 7))] (by rfl) rfl rfl (by simp only [List.map_toArray, List.map_cons, List.map_nil]; rfl) ?_
      with_reducible refine (label_bit.calls _ b _ AB.out).mono ?_
      rintro e w3 ⟨rfl, nd, rfl⟩
      refine ⟨_, rfl, ?_⟩
      refine hK.out _ _ ⟨hHeld.1, hHeld.2.1, hHeld.2.2.1, hHeld.2.2.2⟩ (fun hHeld => ?_)
      clear hK K
      refine norm_ (a' := ?_) ?_ ?_
      rotate_left
      · show Act.put _ (some 28) _ = _
        simp only [Act.put, List.setIfInBounds_toArray, List.set_cons_zero, List.set_cons_succ, i64_w, i32_w]
        rfl
      refine pure_ (i := 6) (N := some 29) (v := ?_) (a' := ?_) #[true, true, true, true, true, true, true, false, false] rfl rfl (by kernel_rfl) (fun _ _ _ h => h) (Or.inl ⟨by rfl, ?_⟩) ?_ ?_
      rotate_left
      · intro w'
        go_simp
        with_reducible rfl
      rotate_left
      · simp only [Act.put, List.setIfInBounds_toArray, List.set_cons_zero, List.set_cons_succ, i64_w, i32_w]
        rfl
      refine pure_ (i := 7) (N := some 30) (v := ?_) (a' := ?_) #[true, true, true, true, true, true, true, true, false] rfl rfl (by kernel_rfl) (fun _ _ _ h => h) (Or.inl ⟨by rfl, ?_⟩) ?_ ?_
      rotate_left
      · intro w'
        go_simp
        with_reducible rfl
      rotate_left
      · simp only [Act.put, List.setIfInBounds_toArray, List.set_cons_zero, List.set_cons_succ, i64_w, i32_w]
        rfl
      refine last_ (i := 8) (N := none) #[true, true, true, true, true, true, true, true, true] rfl rfl (by kernel_rfl) (by decide) (fun K hK => ?_)
      refine skip_ (w1 := ?_) (by rfl) rfl ?_ ?_
      rotate_left
      · go_simp
        rfl
      refine hK.out _ _ ?_
      clear hK K
      refine done_ (by kernel_rfl) ?_
      go_wp2
      go_roundg k1
      case measure => have := HK.out; omega
      case rel => exact ⟨i + 1, Go.bits .or .u64 acc b, (by first | rfl | (simp; done) | (simp [wrap64]; have h5 := hi'.out; have h6 := Hl.out; omega)), ⟨by have := HK.out; omega⟩, A1', ⟨blk_set hHeld.2.1 0 _⟩, ⟨blk_far hHeld.2.2.1 (p := ⟨go, 0, none⟩) (fun e => HNR.out e.symm) _⟩, ⟨fun j hj => (World.cell?_of_block (Below.heap_setCell _ ⟨go, 0, none⟩ _ gc (fun e => HNE.out e.symm))).trans (hHeld.2.2.2 j hj)⟩, ⟨by repeat (first | (with_reducible first | exact HB.out | apply below_alloc | apply pw_below_drewN | apply below_drew1 | refine below_set ?_ GO.out | refine below_set ?_ GR.out) | exact HB.out)⟩⟩
    · have hi' : i = rest.length := by have := HK.out; omega
      have hset : acc = set := by have h0 := A1.out; rw [hi', List.drop_length] at h0; exact Option.some.inj h0
      have hms : m.size = rest.length := by rw [Hm.out]; show rest.toArray.size = _; exact List.size_toArray
      have c3b0 : decide (i < m.size) = false := decide_eq_false (by omega)
      have c3b1 : decide ((i : Int) < (m.size : Int)) = false := decide_eq_false (by omega)
      have c3b2 : (i < m.size) = False := eq_false (by omega)
      have hne : (s.toList == ([] : List UInt8)) = false := by rw [ByteArray.toList_eq, Hs.out]; rfl
      have BKg2 := Aside0.mk BKgo.out
      have A1' := A1
      clear BKgo
      have BKgo := BKg2
      clear BKg2 hms hi A1 A1'
      subst hset
      clear hi'
      have A2' : Aside0 (label_Print.f acc n0 = some p) := ⟨by rw [← Hn.out]; exact A2.out⟩
      clear A2
      by_cases hp : p = s
      · have h2 := H'.out
        rw [if_pos hp, Hn.out] at h2
        simp only [Option.some.injEq, Prod.mk.injEq] at h2
        obtain ⟨rfl, rfl, rfl⟩ := h2
        have hq : (p.toList == s.toList) = true := by rw [hp]; simp
        clear hp H'
        go_wp2_with (first | (go_at_call 29; refine (atoi_one d Hd.out _).mono ?_; rintro e w8 ⟨he, hb⟩; rw [Hn.out] at he; subst he; have BK2gr := Aside0.mk (blk_below (g := gr) (o := .cells #[.int .u64 0, .int .i64 0] 25 (0, 0)) (by (with_reducible repeat (first | refine blk_drewN ?_ _ | refine blk_drew ?_ | refine blk_alloc ?_ _)); exact BKgr.out) hb); clear BKgr; have BKgr := BK2gr; clear BK2gr; have BK2go := Aside0.mk (blk_below (g := go) (o := .cells #[.int .u64 acc, .int .i64 0] 25 (0, 0)) (by (with_reducible repeat (first | refine blk_drewN ?_ _ | refine blk_drew ?_ | refine blk_alloc ?_ _)); exact BKgo.out) hb); clear BKgo; have BKgo := BK2go; clear BK2go; have HB2 := Aside0.mk (below_step (by repeat (first | (with_reducible first | exact HB.out | apply below_alloc | apply pw_below_drewN | apply below_drew1) | exact HB.out)) hb); clear HB; have HB := HB2; clear HB2 hb; have hczgo0_w8 : w8.cell? ⟨go, 0, none⟩ = some (.int .u64 acc) := (blk_cell BKgo.out 0).trans rfl; have hczgo1_w8 : w8.cell? ⟨go, 1, none⟩ = some (.int .i64 0) := (blk_cell BKgo.out 1).trans rfl; have hfzgo0_w8 := blk_frozen BKgo.out 0; have hfzgo1_w8 := blk_frozen BKgo.out 1) | ((with_reducible refine gate_store (t := 3) (p := 37) rfl ?_); refine store_event (t := 3) (p := 37) (v := ?vo) (w1 := (w8.setCell ⟨go, 1, none⟩ (.int .i64 n0))) ?hg ?ho ?hn ?hr ?_; (case ho => rfl); (case hg => rfl); (case hn => rfl); (case hr => first | (go_simp; done) | (go_simp; rfl)); intro w9 hw; have BK2 := Aside0.mk ((by rw [hw]; exact blk_set BKgo.out 1 _) : w9.heap[go]? = some (.cells #[.int .u64 acc, .int .i64 n0] 25 (0, 0))); have BK3 := Aside0.mk ((by rw [hw]; exact blk_far BKgr.out (p := ⟨go, 1, none⟩) (fun e => HNR.out e.symm) _) : w9.heap[gr]? = some (.cells #[.int .u64 0, .int .i64 0] 25 (0, 0))); have HB2 := Aside0.mk ((by rw [hw]; exact below_set HB.out GO.out) : Below w.heap.size w w9); clear HB BKgo BKgr hw; have HB := HB2; have BKgo := BK2; have BKgr := BK3; clear HB2 BK2 BK3; have hczgo0_w9 : w9.cell? ⟨go, 0, none⟩ = some (.int .u64 acc) := (blk_cell BKgo.out 0).trans rfl; have hczgo1_w9 : w9.cell? ⟨go, 1, none⟩ = some (.int .i64 n0) := (blk_cell BKgo.out 1).trans rfl; have hfzgo0_w9 := blk_frozen BKgo.out 0; have hfzgo1_w9 := blk_frozen BKgo.out 1) | (go_at_call 15; (with_reducible refine (label_Print.calls acc n0 p _ A2'.out).mono ?_); rintro e w10 ⟨rfl, hb⟩; have BK2gr := Aside0.mk (blk_below (g := gr) (o := .cells #[.int .u64 0, .int .i64 0] 25 (0, 0)) (by (with_reducible repeat (first | refine blk_drewN ?_ _ | refine blk_drew ?_ | refine blk_alloc ?_ _)); exact BKgr.out) hb); clear BKgr; have BKgr := BK2gr; clear BK2gr; have BK2go := Aside0.mk (blk_below (g := go) (o := .cells #[.int .u64 acc, .int .i64 n0] 25 (0, 0)) (by (with_reducible repeat (first | refine blk_drewN ?_ _ | refine blk_drew ?_ | refine blk_alloc ?_ _)); exact BKgo.out) hb); clear BKgo; have BKgo := BK2go; clear BK2go; have HB2 := Aside0.mk (below_step (by repeat (first | (with_reducible first | exact HB.out | apply below_alloc | apply pw_below_drewN | apply below_drew1) | exact HB.out)) hb); clear HB; have HB := HB2; clear HB2 hb; have hczgo0_w10 : w10.cell? ⟨go, 0, none⟩ = some (.int .u64 acc) := (blk_cell BKgo.out 0).trans rfl; have hczgo1_w10 : w10.cell? ⟨go, 1, none⟩ = some (.int .i64 n0) := (blk_cell BKgo.out 1).trans rfl; have hfzgo0_w10 := blk_frozen BKgo.out 0; have hfzgo1_w10 := blk_frozen BKgo.out 1; have hczgr0_w10 : w10.cell? ⟨gr, 0, none⟩ = some (.int .u64 0) := (blk_cell BKgr.out 0).trans rfl; have hczgr1_w10 : w10.cell? ⟨gr, 1, none⟩ = some (.int .i64 0) := (blk_cell BKgr.out 1).trans rfl; have hfzgr0_w10 := blk_frozen BKgr.out 0; have hfzgr1_w10 := blk_frozen BKgr.out 1))
        repeat (go_quiet (first | (go_at_call 29; refine (atoi_one d Hd.out _).mono ?_; rintro e w8 ⟨he, hb⟩; rw [Hn.out] at he; subst he; have BK2gr := Aside0.mk (blk_below (g := gr) (o := .cells #[.int .u64 0, .int .i64 0] 25 (0, 0)) (by (with_reducible repeat (first | refine blk_drewN ?_ _ | refine blk_drew ?_ | refine blk_alloc ?_ _)); exact BKgr.out) hb); clear BKgr; have BKgr := BK2gr; clear BK2gr; have BK2go := Aside0.mk (blk_below (g := go) (o := .cells #[.int .u64 acc, .int .i64 0] 25 (0, 0)) (by (with_reducible repeat (first | refine blk_drewN ?_ _ | refine blk_drew ?_ | refine blk_alloc ?_ _)); exact BKgo.out) hb); clear BKgo; have BKgo := BK2go; clear BK2go; have HB2 := Aside0.mk (below_step (by repeat (first | (with_reducible first | exact HB.out | apply below_alloc | apply pw_below_drewN | apply below_drew1) | exact HB.out)) hb); clear HB; have HB := HB2; clear HB2 hb; have hczgo0_w8 : w8.cell? ⟨go, 0, none⟩ = some (.int .u64 acc) := (blk_cell BKgo.out 0).trans rfl; have hczgo1_w8 : w8.cell? ⟨go, 1, none⟩ = some (.int .i64 0) := (blk_cell BKgo.out 1).trans rfl; have hfzgo0_w8 := blk_frozen BKgo.out 0; have hfzgo1_w8 := blk_frozen BKgo.out 1) | ((with_reducible refine gate_store (t := 3) (p := 37) rfl ?_); refine store_event (t := 3) (p := 37) (v := ?vo) (w1 := (w8.setCell ⟨go, 1, none⟩ (.int .i64 n0))) ?hg ?ho ?hn ?hr ?_; (case ho => rfl); (case hg => rfl); (case hn => rfl); (case hr => first | (go_simp; done) | (go_simp; rfl)); intro w9 hw; have BK2 := Aside0.mk ((by rw [hw]; exact blk_set BKgo.out 1 _) : w9.heap[go]? = some (.cells #[.int .u64 acc, .int .i64 n0] 25 (0, 0))); have BK3 := Aside0.mk ((by rw [hw]; exact blk_far BKgr.out (p := ⟨go, 1, none⟩) (fun e => HNR.out e.symm) _) : w9.heap[gr]? = some (.cells #[.int .u64 0, .int .i64 0] 25 (0, 0))); have HB2 := Aside0.mk ((by rw [hw]; exact below_set HB.out GO.out) : Below w.heap.size w w9); clear HB BKgo BKgr hw; have HB := HB2; have BKgo := BK2; have BKgr := BK3; clear HB2 BK2 BK3; have hczgo0_w9 : w9.cell? ⟨go, 0, none⟩ = some (.int .u64 acc) := (blk_cell BKgo.out 0).trans rfl; have hczgo1_w9 : w9.cell? ⟨go, 1, none⟩ = some (.int .i64 n0) := (blk_cell BKgo.out 1).trans rfl; have hfzgo0_w9 := blk_frozen BKgo.out 0; have hfzgo1_w9 := blk_frozen BKgo.out 1) | (go_at_call 15; (with_reducible refine (label_Print.calls acc n0 p _ A2'.out).mono ?_); rintro e w10 ⟨rfl, hb⟩; have BK2gr := Aside0.mk (blk_below (g := gr) (o := .cells #[.int .u64 0, .int .i64 0] 25 (0, 0)) (by (with_reducible repeat (first | refine blk_drewN ?_ _ | refine blk_drew ?_ | refine blk_alloc ?_ _)); exact BKgr.out) hb); clear BKgr; have BKgr := BK2gr; clear BK2gr; have BK2go := Aside0.mk (blk_below (g := go) (o := .cells #[.int .u64 acc, .int .i64 n0] 25 (0, 0)) (by (with_reducible repeat (first | refine blk_drewN ?_ _ | refine blk_drew ?_ | refine blk_alloc ?_ _)); exact BKgo.out) hb); clear BKgo; have BKgo := BK2go; clear BK2go; have HB2 := Aside0.mk (below_step (by repeat (first | (with_reducible first | exact HB.out | apply below_alloc | apply pw_below_drewN | apply below_drew1) | exact HB.out)) hb); clear HB; have HB := HB2; clear HB2 hb; have hczgo0_w10 : w10.cell? ⟨go, 0, none⟩ = some (.int .u64 acc) := (blk_cell BKgo.out 0).trans rfl; have hczgo1_w10 : w10.cell? ⟨go, 1, none⟩ = some (.int .i64 n0) := (blk_cell BKgo.out 1).trans rfl; have hfzgo0_w10 := blk_frozen BKgo.out 0; have hfzgo1_w10 := blk_frozen BKgo.out 1; have hczgr0_w10 : w10.cell? ⟨gr, 0, none⟩ = some (.int .u64 0) := (blk_cell BKgr.out 0).trans rfl; have hczgr1_w10 : w10.cell? ⟨gr, 1, none⟩ = some (.int .i64 0) := (blk_cell BKgr.out 1).trans rfl; have hfzgr0_w10 := blk_frozen BKgr.out 0; have hfzgr1_w10 := blk_frozen BKgr.out 1)); try go_wp2_with (first | (go_at_call 29; refine (atoi_one d Hd.out _).mono ?_; rintro e w8 ⟨he, hb⟩; rw [Hn.out] at he; subst he; have BK2gr := Aside0.mk (blk_below (g := gr) (o := .cells #[.int .u64 0, .int .i64 0] 25 (0, 0)) (by (with_reducible repeat (first | refine blk_drewN ?_ _ | refine blk_drew ?_ | refine blk_alloc ?_ _)); exact BKgr.out) hb); clear BKgr; have BKgr := BK2gr; clear BK2gr; have BK2go := Aside0.mk (blk_below (g := go) (o := .cells #[.int .u64 acc, .int .i64 0] 25 (0, 0)) (by (with_reducible repeat (first | refine blk_drewN ?_ _ | refine blk_drew ?_ | refine blk_alloc ?_ _)); exact BKgo.out) hb); clear BKgo; have BKgo := BK2go; clear BK2go; have HB2 := Aside0.mk (below_step (by repeat (first | (with_reducible first | exact HB.out | apply below_alloc | apply pw_below_drewN | apply below_drew1) | exact HB.out)) hb); clear HB; have HB := HB2; clear HB2 hb; have hczgo0_w8 : w8.cell? ⟨go, 0, none⟩ = some (.int .u64 acc) := (blk_cell BKgo.out 0).trans rfl; have hczgo1_w8 : w8.cell? ⟨go, 1, none⟩ = some (.int .i64 0) := (blk_cell BKgo.out 1).trans rfl; have hfzgo0_w8 := blk_frozen BKgo.out 0; have hfzgo1_w8 := blk_frozen BKgo.out 1) | ((with_reducible refine gate_store (t := 3) (p := 37) rfl ?_); refine store_event (t := 3) (p := 37) (v := ?vo) (w1 := (w8.setCell ⟨go, 1, none⟩ (.int .i64 n0))) ?hg ?ho ?hn ?hr ?_; (case ho => rfl); (case hg => rfl); (case hn => rfl); (case hr => first | (go_simp; done) | (go_simp; rfl)); intro w9 hw; have BK2 := Aside0.mk ((by rw [hw]; exact blk_set BKgo.out 1 _) : w9.heap[go]? = some (.cells #[.int .u64 acc, .int .i64 n0] 25 (0, 0))); have BK3 := Aside0.mk ((by rw [hw]; exact blk_far BKgr.out (p := ⟨go, 1, none⟩) (fun e => HNR.out e.symm) _) : w9.heap[gr]? = some (.cells #[.int .u64 0, .int .i64 0] 25 (0, 0))); have HB2 := Aside0.mk ((by rw [hw]; exact below_set HB.out GO.out) : Below w.heap.size w w9); clear HB BKgo BKgr hw; have HB := HB2; have BKgo := BK2; have BKgr := BK3; clear HB2 BK2 BK3; have hczgo0_w9 : w9.cell? ⟨go, 0, none⟩ = some (.int .u64 acc) := (blk_cell BKgo.out 0).trans rfl; have hczgo1_w9 : w9.cell? ⟨go, 1, none⟩ = some (.int .i64 n0) := (blk_cell BKgo.out 1).trans rfl; have hfzgo0_w9 := blk_frozen BKgo.out 0; have hfzgo1_w9 := blk_frozen BKgo.out 1) | (go_at_call 15; (with_reducible refine (label_Print.calls acc n0 p _ A2'.out).mono ?_); rintro e w10 ⟨rfl, hb⟩; have BK2gr := Aside0.mk (blk_below (g := gr) (o := .cells #[.int .u64 0, .int .i64 0] 25 (0, 0)) (by (with_reducible repeat (first | refine blk_drewN ?_ _ | refine blk_drew ?_ | refine blk_alloc ?_ _)); exact BKgr.out) hb); clear BKgr; have BKgr := BK2gr; clear BK2gr; have BK2go := Aside0.mk (blk_below (g := go) (o := .cells #[.int .u64 acc, .int .i64 n0] 25 (0, 0)) (by (with_reducible repeat (first | refine blk_drewN ?_ _ | refine blk_drew ?_ | refine blk_alloc ?_ _)); exact BKgo.out) hb); clear BKgo; have BKgo := BK2go; clear BK2go; have HB2 := Aside0.mk (below_step (by repeat (first | (with_reducible first | exact HB.out | apply below_alloc | apply pw_below_drewN | apply below_drew1) | exact HB.out)) hb); clear HB; have HB := HB2; clear HB2 hb; have hczgo0_w10 : w10.cell? ⟨go, 0, none⟩ = some (.int .u64 acc) := (blk_cell BKgo.out 0).trans rfl; have hczgo1_w10 : w10.cell? ⟨go, 1, none⟩ = some (.int .i64 n0) := (blk_cell BKgo.out 1).trans rfl; have hfzgo0_w10 := blk_frozen BKgo.out 0; have hfzgo1_w10 := blk_frozen BKgo.out 1; have hczgr0_w10 : w10.cell? ⟨gr, 0, none⟩ = some (.int .u64 0) := (blk_cell BKgr.out 0).trans rfl; have hczgr1_w10 : w10.cell? ⟨gr, 1, none⟩ = some (.int .i64 0) := (blk_cell BKgr.out 1).trans rfl; have hfzgr0_w10 := blk_frozen BKgr.out 0; have hfzgr1_w10 := blk_frozen BKgr.out 1)))
        refine bodyPost_ret (results_ct rfl _ _ gr 25 #[.int .u64 acc, .int .i64 n0] (0, 0) _ rfl (by (with_reducible repeat (first | refine blk_drewN ?_ _ | refine blk_drew ?_ | refine blk_alloc ?_ _)); refine blk_put (cs := #[.int .u64 acc, .int .i64 0]) ?_ 1 _ rfl; (with_reducible repeat (first | refine blk_drewN ?_ _ | refine blk_drew ?_ | refine blk_alloc ?_ _)); refine blk_put (cs := #[.int .u64 0, .int .i64 0]) ?_ 0 _ rfl; (with_reducible repeat (first | refine blk_drewN ?_ _ | refine blk_drew ?_ | refine blk_alloc ?_ _)); exact BKgr.out) Tryd.underlying25 rfl (by kernel_rfl)) rfl ?_
        exact ⟨rfl, by repeat (first | (with_reducible first | exact HB.out | apply below_alloc | apply pw_below_drewN | apply below_drew1 | refine below_set ?_ GO.out | refine below_set ?_ GR.out) | exact HB.out)⟩
      · have h2 := H'.out
        rw [if_neg hp] at h2
        simp only [Option.some.injEq, Prod.mk.injEq] at h2
        obtain ⟨rfl, rfl, rfl⟩ := h2
        have hq : (p.toList == s.toList) = false := beq_eq_false_iff_ne.mpr (fun e => hp (ByteArray.ext (Array.toList_inj.mp (by rw [← ByteArray.toList_eq, ← ByteArray.toList_eq]; exact e))))
        clear hp H'
        go_wp2_with (first | (go_at_call 29; refine (atoi_one d Hd.out _).mono ?_; rintro e w8 ⟨he, hb⟩; rw [Hn.out] at he; subst he; have BK2gr := Aside0.mk (blk_below (g := gr) (o := .cells #[.int .u64 0, .int .i64 0] 25 (0, 0)) (by (with_reducible repeat (first | refine blk_drewN ?_ _ | refine blk_drew ?_ | refine blk_alloc ?_ _)); exact BKgr.out) hb); clear BKgr; have BKgr := BK2gr; clear BK2gr; have BK2go := Aside0.mk (blk_below (g := go) (o := .cells #[.int .u64 acc, .int .i64 0] 25 (0, 0)) (by (with_reducible repeat (first | refine blk_drewN ?_ _ | refine blk_drew ?_ | refine blk_alloc ?_ _)); exact BKgo.out) hb); clear BKgo; have BKgo := BK2go; clear BK2go; have HB2 := Aside0.mk (below_step (by repeat (first | (with_reducible first | exact HB.out | apply below_alloc | apply pw_below_drewN | apply below_drew1) | exact HB.out)) hb); clear HB; have HB := HB2; clear HB2 hb; have hczgo0_w8 : w8.cell? ⟨go, 0, none⟩ = some (.int .u64 acc) := (blk_cell BKgo.out 0).trans rfl; have hczgo1_w8 : w8.cell? ⟨go, 1, none⟩ = some (.int .i64 0) := (blk_cell BKgo.out 1).trans rfl; have hfzgo0_w8 := blk_frozen BKgo.out 0; have hfzgo1_w8 := blk_frozen BKgo.out 1) | ((with_reducible refine gate_store (t := 3) (p := 37) rfl ?_); refine store_event (t := 3) (p := 37) (v := ?vo) (w1 := (w8.setCell ⟨go, 1, none⟩ (.int .i64 n0))) ?hg ?ho ?hn ?hr ?_; (case ho => rfl); (case hg => rfl); (case hn => rfl); (case hr => first | (go_simp; done) | (go_simp; rfl)); intro w9 hw; have BK2 := Aside0.mk ((by rw [hw]; exact blk_set BKgo.out 1 _) : w9.heap[go]? = some (.cells #[.int .u64 acc, .int .i64 n0] 25 (0, 0))); have BK3 := Aside0.mk ((by rw [hw]; exact blk_far BKgr.out (p := ⟨go, 1, none⟩) (fun e => HNR.out e.symm) _) : w9.heap[gr]? = some (.cells #[.int .u64 0, .int .i64 0] 25 (0, 0))); have HB2 := Aside0.mk ((by rw [hw]; exact below_set HB.out GO.out) : Below w.heap.size w w9); clear HB BKgo BKgr hw; have HB := HB2; have BKgo := BK2; have BKgr := BK3; clear HB2 BK2 BK3; have hczgo0_w9 : w9.cell? ⟨go, 0, none⟩ = some (.int .u64 acc) := (blk_cell BKgo.out 0).trans rfl; have hczgo1_w9 : w9.cell? ⟨go, 1, none⟩ = some (.int .i64 n0) := (blk_cell BKgo.out 1).trans rfl; have hfzgo0_w9 := blk_frozen BKgo.out 0; have hfzgo1_w9 := blk_frozen BKgo.out 1) | (go_at_call 15; (with_reducible refine (label_Print.calls acc n0 p _ A2'.out).mono ?_); rintro e w10 ⟨rfl, hb⟩; have BK2gr := Aside0.mk (blk_below (g := gr) (o := .cells #[.int .u64 0, .int .i64 0] 25 (0, 0)) (by (with_reducible repeat (first | refine blk_drewN ?_ _ | refine blk_drew ?_ | refine blk_alloc ?_ _)); exact BKgr.out) hb); clear BKgr; have BKgr := BK2gr; clear BK2gr; have BK2go := Aside0.mk (blk_below (g := go) (o := .cells #[.int .u64 acc, .int .i64 n0] 25 (0, 0)) (by (with_reducible repeat (first | refine blk_drewN ?_ _ | refine blk_drew ?_ | refine blk_alloc ?_ _)); exact BKgo.out) hb); clear BKgo; have BKgo := BK2go; clear BK2go; have HB2 := Aside0.mk (below_step (by repeat (first | (with_reducible first | exact HB.out | apply below_alloc | apply pw_below_drewN | apply below_drew1) | exact HB.out)) hb); clear HB; have HB := HB2; clear HB2 hb; have hczgo0_w10 : w10.cell? ⟨go, 0, none⟩ = some (.int .u64 acc) := (blk_cell BKgo.out 0).trans rfl; have hczgo1_w10 : w10.cell? ⟨go, 1, none⟩ = some (.int .i64 n0) := (blk_cell BKgo.out 1).trans rfl; have hfzgo0_w10 := blk_frozen BKgo.out 0; have hfzgo1_w10 := blk_frozen BKgo.out 1; have hczgr0_w10 : w10.cell? ⟨gr, 0, none⟩ = some (.int .u64 0) := (blk_cell BKgr.out 0).trans rfl; have hczgr1_w10 : w10.cell? ⟨gr, 1, none⟩ = some (.int .i64 0) := (blk_cell BKgr.out 1).trans rfl; have hfzgr0_w10 := blk_frozen BKgr.out 0; have hfzgr1_w10 := blk_frozen BKgr.out 1))
        repeat (go_quiet (first | (go_at_call 29; refine (atoi_one d Hd.out _).mono ?_; rintro e w8 ⟨he, hb⟩; rw [Hn.out] at he; subst he; have BK2gr := Aside0.mk (blk_below (g := gr) (o := .cells #[.int .u64 0, .int .i64 0] 25 (0, 0)) (by (with_reducible repeat (first | refine blk_drewN ?_ _ | refine blk_drew ?_ | refine blk_alloc ?_ _)); exact BKgr.out) hb); clear BKgr; have BKgr := BK2gr; clear BK2gr; have BK2go := Aside0.mk (blk_below (g := go) (o := .cells #[.int .u64 acc, .int .i64 0] 25 (0, 0)) (by (with_reducible repeat (first | refine blk_drewN ?_ _ | refine blk_drew ?_ | refine blk_alloc ?_ _)); exact BKgo.out) hb); clear BKgo; have BKgo := BK2go; clear BK2go; have HB2 := Aside0.mk (below_step (by repeat (first | (with_reducible first | exact HB.out | apply below_alloc | apply pw_below_drewN | apply below_drew1) | exact HB.out)) hb); clear HB; have HB := HB2; clear HB2 hb; have hczgo0_w8 : w8.cell? ⟨go, 0, none⟩ = some (.int .u64 acc) := (blk_cell BKgo.out 0).trans rfl; have hczgo1_w8 : w8.cell? ⟨go, 1, none⟩ = some (.int .i64 0) := (blk_cell BKgo.out 1).trans rfl; have hfzgo0_w8 := blk_frozen BKgo.out 0; have hfzgo1_w8 := blk_frozen BKgo.out 1) | ((with_reducible refine gate_store (t := 3) (p := 37) rfl ?_); refine store_event (t := 3) (p := 37) (v := ?vo) (w1 := (w8.setCell ⟨go, 1, none⟩ (.int .i64 n0))) ?hg ?ho ?hn ?hr ?_; (case ho => rfl); (case hg => rfl); (case hn => rfl); (case hr => first | (go_simp; done) | (go_simp; rfl)); intro w9 hw; have BK2 := Aside0.mk ((by rw [hw]; exact blk_set BKgo.out 1 _) : w9.heap[go]? = some (.cells #[.int .u64 acc, .int .i64 n0] 25 (0, 0))); have BK3 := Aside0.mk ((by rw [hw]; exact blk_far BKgr.out (p := ⟨go, 1, none⟩) (fun e => HNR.out e.symm) _) : w9.heap[gr]? = some (.cells #[.int .u64 0, .int .i64 0] 25 (0, 0))); have HB2 := Aside0.mk ((by rw [hw]; exact below_set HB.out GO.out) : Below w.heap.size w w9); clear HB BKgo BKgr hw; have HB := HB2; have BKgo := BK2; have BKgr := BK3; clear HB2 BK2 BK3; have hczgo0_w9 : w9.cell? ⟨go, 0, none⟩ = some (.int .u64 acc) := (blk_cell BKgo.out 0).trans rfl; have hczgo1_w9 : w9.cell? ⟨go, 1, none⟩ = some (.int .i64 n0) := (blk_cell BKgo.out 1).trans rfl; have hfzgo0_w9 := blk_frozen BKgo.out 0; have hfzgo1_w9 := blk_frozen BKgo.out 1) | (go_at_call 15; (with_reducible refine (label_Print.calls acc n0 p _ A2'.out).mono ?_); rintro e w10 ⟨rfl, hb⟩; have BK2gr := Aside0.mk (blk_below (g := gr) (o := .cells #[.int .u64 0, .int .i64 0] 25 (0, 0)) (by (with_reducible repeat (first | refine blk_drewN ?_ _ | refine blk_drew ?_ | refine blk_alloc ?_ _)); exact BKgr.out) hb); clear BKgr; have BKgr := BK2gr; clear BK2gr; have BK2go := Aside0.mk (blk_below (g := go) (o := .cells #[.int .u64 acc, .int .i64 n0] 25 (0, 0)) (by (with_reducible repeat (first | refine blk_drewN ?_ _ | refine blk_drew ?_ | refine blk_alloc ?_ _)); exact BKgo.out) hb); clear BKgo; have BKgo := BK2go; clear BK2go; have HB2 := Aside0.mk (below_step (by repeat (first | (with_reducible first | exact HB.out | apply below_alloc | apply pw_below_drewN | apply below_drew1) | exact HB.out)) hb); clear HB; have HB := HB2; clear HB2 hb; have hczgo0_w10 : w10.cell? ⟨go, 0, none⟩ = some (.int .u64 acc) := (blk_cell BKgo.out 0).trans rfl; have hczgo1_w10 : w10.cell? ⟨go, 1, none⟩ = some (.int .i64 n0) := (blk_cell BKgo.out 1).trans rfl; have hfzgo0_w10 := blk_frozen BKgo.out 0; have hfzgo1_w10 := blk_frozen BKgo.out 1; have hczgr0_w10 : w10.cell? ⟨gr, 0, none⟩ = some (.int .u64 0) := (blk_cell BKgr.out 0).trans rfl; have hczgr1_w10 : w10.cell? ⟨gr, 1, none⟩ = some (.int .i64 0) := (blk_cell BKgr.out 1).trans rfl; have hfzgr0_w10 := blk_frozen BKgr.out 0; have hfzgr1_w10 := blk_frozen BKgr.out 1)); try go_wp2_with (first | (go_at_call 29; refine (atoi_one d Hd.out _).mono ?_; rintro e w8 ⟨he, hb⟩; rw [Hn.out] at he; subst he; have BK2gr := Aside0.mk (blk_below (g := gr) (o := .cells #[.int .u64 0, .int .i64 0] 25 (0, 0)) (by (with_reducible repeat (first | refine blk_drewN ?_ _ | refine blk_drew ?_ | refine blk_alloc ?_ _)); exact BKgr.out) hb); clear BKgr; have BKgr := BK2gr; clear BK2gr; have BK2go := Aside0.mk (blk_below (g := go) (o := .cells #[.int .u64 acc, .int .i64 0] 25 (0, 0)) (by (with_reducible repeat (first | refine blk_drewN ?_ _ | refine blk_drew ?_ | refine blk_alloc ?_ _)); exact BKgo.out) hb); clear BKgo; have BKgo := BK2go; clear BK2go; have HB2 := Aside0.mk (below_step (by repeat (first | (with_reducible first | exact HB.out | apply below_alloc | apply pw_below_drewN | apply below_drew1) | exact HB.out)) hb); clear HB; have HB := HB2; clear HB2 hb; have hczgo0_w8 : w8.cell? ⟨go, 0, none⟩ = some (.int .u64 acc) := (blk_cell BKgo.out 0).trans rfl; have hczgo1_w8 : w8.cell? ⟨go, 1, none⟩ = some (.int .i64 0) := (blk_cell BKgo.out 1).trans rfl; have hfzgo0_w8 := blk_frozen BKgo.out 0; have hfzgo1_w8 := blk_frozen BKgo.out 1) | ((with_reducible refine gate_store (t := 3) (p := 37) rfl ?_); refine store_event (t := 3) (p := 37) (v := ?vo) (w1 := (w8.setCell ⟨go, 1, none⟩ (.int .i64 n0))) ?hg ?ho ?hn ?hr ?_; (case ho => rfl); (case hg => rfl); (case hn => rfl); (case hr => first | (go_simp; done) | (go_simp; rfl)); intro w9 hw; have BK2 := Aside0.mk ((by rw [hw]; exact blk_set BKgo.out 1 _) : w9.heap[go]? = some (.cells #[.int .u64 acc, .int .i64 n0] 25 (0, 0))); have BK3 := Aside0.mk ((by rw [hw]; exact blk_far BKgr.out (p := ⟨go, 1, none⟩) (fun e => HNR.out e.symm) _) : w9.heap[gr]? = some (.cells #[.int .u64 0, .int .i64 0] 25 (0, 0))); have HB2 := Aside0.mk ((by rw [hw]; exact below_set HB.out GO.out) : Below w.heap.size w w9); clear HB BKgo BKgr hw; have HB := HB2; have BKgo := BK2; have BKgr := BK3; clear HB2 BK2 BK3; have hczgo0_w9 : w9.cell? ⟨go, 0, none⟩ = some (.int .u64 acc) := (blk_cell BKgo.out 0).trans rfl; have hczgo1_w9 : w9.cell? ⟨go, 1, none⟩ = some (.int .i64 n0) := (blk_cell BKgo.out 1).trans rfl; have hfzgo0_w9 := blk_frozen BKgo.out 0; have hfzgo1_w9 := blk_frozen BKgo.out 1) | (go_at_call 15; (with_reducible refine (label_Print.calls acc n0 p _ A2'.out).mono ?_); rintro e w10 ⟨rfl, hb⟩; have BK2gr := Aside0.mk (blk_below (g := gr) (o := .cells #[.int .u64 0, .int .i64 0] 25 (0, 0)) (by (with_reducible repeat (first | refine blk_drewN ?_ _ | refine blk_drew ?_ | refine blk_alloc ?_ _)); exact BKgr.out) hb); clear BKgr; have BKgr := BK2gr; clear BK2gr; have BK2go := Aside0.mk (blk_below (g := go) (o := .cells #[.int .u64 acc, .int .i64 n0] 25 (0, 0)) (by (with_reducible repeat (first | refine blk_drewN ?_ _ | refine blk_drew ?_ | refine blk_alloc ?_ _)); exact BKgo.out) hb); clear BKgo; have BKgo := BK2go; clear BK2go; have HB2 := Aside0.mk (below_step (by repeat (first | (with_reducible first | exact HB.out | apply below_alloc | apply pw_below_drewN | apply below_drew1) | exact HB.out)) hb); clear HB; have HB := HB2; clear HB2 hb; have hczgo0_w10 : w10.cell? ⟨go, 0, none⟩ = some (.int .u64 acc) := (blk_cell BKgo.out 0).trans rfl; have hczgo1_w10 : w10.cell? ⟨go, 1, none⟩ = some (.int .i64 n0) := (blk_cell BKgo.out 1).trans rfl; have hfzgo0_w10 := blk_frozen BKgo.out 0; have hfzgo1_w10 := blk_frozen BKgo.out 1; have hczgr0_w10 : w10.cell? ⟨gr, 0, none⟩ = some (.int .u64 0) := (blk_cell BKgr.out 0).trans rfl; have hczgr1_w10 : w10.cell? ⟨gr, 1, none⟩ = some (.int .i64 0) := (blk_cell BKgr.out 1).trans rfl; have hfzgr0_w10 := blk_frozen BKgr.out 0; have hfzgr1_w10 := blk_frozen BKgr.out 1)))
        refine bodyPost_ret (results_ct rfl _ _ gr 25 #[.int .u64 0, .int .i64 0] (0, 0) _ rfl (by (with_reducible repeat (first | refine blk_drewN ?_ _ | refine blk_drew ?_ | refine blk_alloc ?_ _)); refine blk_put (cs := #[.int .u64 0, .int .i64 0]) ?_ 1 _ rfl; (with_reducible repeat (first | refine blk_drewN ?_ _ | refine blk_drew ?_ | refine blk_alloc ?_ _)); refine blk_put (cs := #[.int .u64 0, .int .i64 0]) ?_ 0 _ rfl; (with_reducible repeat (first | refine blk_drewN ?_ _ | refine blk_drew ?_ | refine blk_alloc ?_ _)); exact BKgr.out) Tryd.underlying25 rfl (by kernel_rfl)) rfl ?_
        exact ⟨rfl, by repeat (first | (with_reducible first | exact HB.out | apply below_alloc | apply pw_below_drewN | apply below_drew1 | refine below_set ?_ GO.out | refine below_set ?_ GR.out) | exact HB.out)⟩

/-! ### pyxlaw8_known: function 11 -/
def pyxlaw8_known.f  : Option (Bool) := (label_Read.f (⟨#[49, 58, 48, 50]⟩ : ByteArray)).bind fun bt115 => ((label_Print.f 5 1).bind fun t119 => (if t119.toList = ([49, 58, 48, 50] : List UInt8) then (if bt115.2.2 = 0 then (some (5 == bt115.1 && (1 == bt115.2.1))) else (some false)) else (some false)))
set_option maxHeartbeats 4000000 in
set_option maxRecDepth 100000 in
theorem pyxlaw8_known.calls  (r : Bool) (w : World) (h : pyxlaw8_known.f  = some r) :
    Calls Tryd.prog 11 #[] w fun e w' => e = .returned (.bool r) ∧ Below w.heap.size w w' := by
  have hu25 := Tryd.underlying25
  have hz25 : ZeroIs Tryd.prog 25 [.int .u64 0, .int .i64 0] := by unfold ZeroIs; kernel_rfl
  have hs25 : (Tryd.prog.info? 25).map (·.size) = some 2 := by kernel_rfl
  have HO := Aside0.mk (own_refl w)
  have H : ((label_Read.f (⟨#[49, 58, 48, 50]⟩ : ByteArray)).bind fun bt115 => ((label_Print.f 5 1).bind fun t119 => (if t119.toList = ([49, 58, 48, 50] : List UInt8) then (if bt115.2.2 = 0 then (some (5 == bt115.1 && (1 == bt115.2.1))) else (some false)) else (some false)))) = some r := h
  clear h
  refine bind_elim H (fun ⟨t115, t116, t117⟩ A1_ H => have A1 := Aside0.mk A1_; clear% A1_; bind_elim H (fun t119 A2_ H => have A2 := Aside0.mk A2_; clear% A2_; ite_elim H (fun c3 H => have cb11 : (t119.toList == ([49, 58, 48, 50] : List UInt8)) = true := beq_iff_eq.mpr c3; have cb10 : (t119.toList != ([49, 58, 48, 50] : List UInt8)) = false := bne_eq_false_iff_eq.mpr c3; ite_elim H (fun c4 H => have cb6 : (t117 == 0) = true := beq_iff_eq.mpr c4; have cb5 : (t117 != 0) = false := bne_eq_false_iff_eq.mpr c4; some_elim H (fun H => ?_)) (fun c7 H => have cb9 : (t117 == 0) = false := beq_eq_false_iff_ne.mpr c7; have cb8 : (t117 != 0) = true := bne_iff_ne.mpr c7; some_elim H (fun H => ?_))) (fun c12 H => have cb14 : (t119.toList == ([49, 58, 48, 50] : List UInt8)) = false := beq_eq_false_iff_ne.mpr c12; have cb13 : (t119.toList != ([49, 58, 48, 50] : List UInt8)) = true := bne_iff_ne.mpr c12; some_elim H (fun H => ?_))))
  all_goals
    subst H
    go_enter Tryd.func11, Tryd.ntmps11
    go_wp2_with (first
          | ((with_reducible refine gateA rfl ?_); refine st_alloc HO rfl rfl (by assumption) ?_; intro g_ w_ HO2; clear HO; have HO := HO2; clear HO2)
          | ((with_reducible refine gateB rfl ?_); refine st_box HO rfl rfl rfl ?_; intro g_ w_ HO2; clear HO; have HO := HO2; clear HO2)
          | ((with_reducible refine gateL rfl ?_); (first | refine st_load1 HO (h := ?_) | refine st_loadN HO (h := ?_)))
          | ((with_reducible refine gateS rfl ?_); (first | refine st_storeN HO (h := ?_) | refine st_store1 HO (h := ?_)); intro w_ HO2; clear HO; have HO := HO2; clear HO2)
          | (go_at_call 14; (with_reducible refine (label_Read.calls _ _ _ _ _ (Aside0.out (by assumption))).mono ?_); rintro e w_ ⟨rfl, hb⟩; have HO2 := Aside0.mk (own_call HO.out hb); clear hb HO; have HO := HO2; clear HO2)
          | (go_at_call 15; (with_reducible refine (label_Print.calls _ _ _ _ (Aside0.out (by assumption))).mono ?_); rintro e w_ ⟨rfl, hb⟩; have HO2 := Aside0.mk (own_call HO.out hb); clear hb HO; have HO := HO2; clear HO2))
    refine bodyPost_ret (results_single rfl (.tmp .nil)) rfl ?_
    exact ⟨by first | rfl | (simp; done) | (simp [*]; done), HO.out.1⟩

/-! ### label_Below: function 12 -/
def label_Below.f (a0_0 : Int) (a0_1 : Int) (a1_0 : Int) (a1_1 : Int) : Option (Bool) := if (Go.bits .andNot .u64 a0_0 a1_0) = 0 then (some (decide (a0_1 ≤ a1_1))) else (some false)
set_option maxHeartbeats 4000000 in
set_option maxRecDepth 100000 in
theorem label_Below.calls (a0_0 : Int) (a0_1 : Int) (a1_0 : Int) (a1_1 : Int) (r : Bool) (w : World) (h : label_Below.f a0_0 a0_1 a1_0 a1_1 = some r) :
    Calls Tryd.prog 12 #[.agg #[.int .u64 a0_0, .int .i64 a0_1], .agg #[.int .u64 a1_0, .int .i64 a1_1]] w fun e w' => e = .returned (.bool r) ∧ Below w.heap.size w w' := by
  have hu3 := Tryd.underlying3
  have hu22 := Tryd.underlying22
  have hu25 := Tryd.underlying25
  have hs3 : (Tryd.prog.info? 3).map (·.size) = some 1 := by kernel_rfl
  have hs22 : (Tryd.prog.info? 22).map (·.size) = some 1 := by kernel_rfl
  have hs25 : (Tryd.prog.info? 25).map (·.size) = some 2 := by kernel_rfl
  have HO := Aside0.mk (own_refl w)
  have H : (if (Go.bits .andNot .u64 a0_0 a1_0) = 0 then (some (decide (a0_1 ≤ a1_1))) else (some false)) = some r := h
  clear h
  refine ite_elim H (fun c1 H => have cb3 : ((Go.bits .andNot .u64 a0_0 a1_0) == 0) = true := beq_iff_eq.mpr c1; have cb2 : ((Go.bits .andNot .u64 a0_0 a1_0) != 0) = false := bne_eq_false_iff_eq.mpr c1; some_elim H (fun H => ?_)) (fun c4 H => have cb6 : ((Go.bits .andNot .u64 a0_0 a1_0) == 0) = false := beq_eq_false_iff_ne.mpr c4; have cb5 : ((Go.bits .andNot .u64 a0_0 a1_0) != 0) = true := bne_iff_ne.mpr c4; some_elim H (fun H => ?_))
  all_goals
    subst H
    go_enter Tryd.func12, Tryd.ntmps12
    go_wp2_with (first
          | ((with_reducible refine gateA rfl ?_); refine st_alloc HO rfl rfl (by assumption) ?_; intro g_ w_ HO2; clear HO; have HO := HO2; clear HO2)
          | ((with_reducible refine gateB rfl ?_); refine st_box HO rfl rfl rfl ?_; intro g_ w_ HO2; clear HO; have HO := HO2; clear HO2)
          | ((with_reducible refine gateL rfl ?_); (first | refine st_load1 HO (h := ?_) | refine st_loadN HO (h := ?_)))
          | ((with_reducible refine gateS rfl ?_); (first | refine st_storeN HO (h := ?_) | refine st_store1 HO (h := ?_)); intro w_ HO2; clear HO; have HO := HO2; clear HO2))
    refine bodyPost_ret (results_single rfl (.tmp .nil)) rfl ?_
    exact ⟨by first | rfl | (simp; done) | (simp [*]; done), HO.out.1⟩

-- NOT PRINTED: function 3 (pyxlaw8_LabelOrder)

end Go.Proofs.YthfpfogodggdmaaDoor.PLabelOrder
