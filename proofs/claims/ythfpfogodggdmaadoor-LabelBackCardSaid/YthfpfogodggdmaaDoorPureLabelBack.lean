/- The plain law of LabelBack: a label of members among 8 and a level among 4, printed and read, is the same, and is the Join of its members' own labels. No condition. -/
import Derived.Test.YthfpfogodggdmaaDoorPLabelBackx3
import Derived.KernelRfl
namespace Go.Proofs.YthfpfogodggdmaaDoor.Pure
open Go.RowKit Go.Proofs.YthfpfogodggdmaaDoor.PLabelBack Go.Proofs.YthfpfogodggdmaaDoorW.PrintWords Go.Proofs.YthfpfogodggdmaaDoorW.PrintLast
theorem read_known : label_Read.f ⟨#[49, 58, 48, 50]⟩ = some (5, 1, 0) := by kernel_rfl
theorem print_known : label_Print.f 5 1 = some ⟨#[49, 58, 48, 50]⟩ := by kernel_rfl
theorem known_true : pyxlaw8_known.f = some true := by
  unfold pyxlaw8_known.f
  rw [read_known, print_known]
  simp [ByteArray.toList_eq]
/-- a number that Pick gives -/
theorem pick_some (a n : Int) (hn : 0 < n) (hn2 : n < 1000000) : ∃ m : Nat, (m : Int) < n ∧ pyxhand_Pick.f a n = some (m : Int) := by
  have h1 := Int.tmod_lt_of_pos a hn
  have h2 := Int.lt_tmod_of_pos a hn
  unfold pyxhand_Pick.f
  rw [if_neg (by omega)]
  by_cases h : Int.tmod a n < 0
  · rw [if_pos h]
    refine ⟨(Int.tmod a n + n).toNat, by omega, ?_⟩
    rw [show wrap64 (Int.tmod a n + n) = Int.tmod a n + n by unfold wrap64; omega]
    exact congrArg some (by omega)
  · rw [if_neg h]
    exact ⟨(Int.tmod a n).toNat, by omega, congrArg some (by omega)⟩
/-- the law's loop, its example known -/
def goBack : Nat → Int → List Int → Int → Int → Int → Int → Int → Int → Int → Int → Option (Bool)
  | 0, _, _, _, _, _, _, _, _, _, _ => none
  | k + 1, x7, x27, x28, x29, a0, a1, b0, b1, j0, j1 => if x29 < x28 then (if 0 ≤ x29 then (if x29 < (x27.length : Int) then ((label_Of.f (rd x27 x29) 0).bind fun c => ((label_Join.f j0 j1 c.1 c.2).bind fun d => ((label_Of.f (rd x27 x29) a1).bind fun e => ((label_Below.f e.1 e.2 a0 a1).bind fun t => (if t = true then (goBack k x7 x27 x28 (wrap64 (x29 + 1)) a0 a1 b0 b1 d.1 d.2) else (some false)))))) else (none)) else (none)) else (if x7 = 0 then (if (a0 == b0 && (a1 == b1)) = true then (some (j0 == a0 && (j1 == a1))) else (some false)) else (some false))
theorem goBack_eq : ∀ (k : Nat) (x7 : Int) (x27 : List Int) (x28 x29 a0 a1 b0 b1 j0 j1 : Int), pyxlaw8_LabelBack.l0 k x7 x27 x28 x29 a0 a1 b0 b1 j0 j1 = goBack k x7 x27 x28 x29 a0 a1 b0 b1 j0 j1
  | 0, _, _, _, _, _, _, _, _, _, _ => rfl
  | k + 1, x7, x27, x28, x29, a0, a1, b0, b1, j0, j1 => by
    simp only [pyxlaw8_LabelBack.l0, goBack, known_true, Option.bind_some, if_true]
    simp only [goBack_eq k]
def one (m lv : Nat) : Bool := ((label_Print.f (IntKind.u64.wrap (m : Int)) (lv : Int)).bind fun p => ((label_Read.f p).bind fun b => ((label_Members.f 12 (IntKind.u64.wrap (m : Int)) (lv : Int)).bind fun l => goBack 12 b.2.2 l (l.length : Int) 0 (IntKind.u64.wrap (m : Int)) (lv : Int) b.1 b.2.1 0 (lv : Int)))) == some true
theorem all_one : ((List.range 256).all fun m => (List.range 4).all fun lv => one m lv) = true := by kernel_rfl
theorem LabelBack : pyxlaw8_LabelBack.Pure := by
  intro a0 a1 _ _
  obtain ⟨m, hm, h0⟩ := pick_some a0 256 (by decide) (by decide)
  obtain ⟨lv, hl, h1⟩ := pick_some a1 4 (by decide) (by decide)
  refine ⟨12, ?_⟩
  have h := List.all_eq_true.mp (List.all_eq_true.mp all_one m (List.mem_range.mpr (by omega))) lv (List.mem_range.mpr (by omega))
  have h2 := eq_of_beq h
  unfold pyxlaw8_LabelBack.f
  rw [h0, h1]
  simp only [Option.bind_some, goBack_eq]
  exact h2
end Go.Proofs.YthfpfogodggdmaaDoor.Pure
