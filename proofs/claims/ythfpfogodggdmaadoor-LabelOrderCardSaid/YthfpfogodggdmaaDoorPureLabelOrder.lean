/- The plain law of LabelOrder, joined with the walk: of labels of members among 8 and a level among 4 Below is an order, the Join is the least above both, the Meet the greatest below both. No condition. -/
import Derived.Test.YthfpfogodggdmaaDoorOrderWalk
import Derived.KernelRfl
namespace Go.Proofs.YthfpfogodggdmaaDoor.Pure
open Go.RowKit Go.Proofs.YthfpfogodggdmaaDoor.PLabelOrder Go.Proofs.YthfpfogodggdmaaDoorW.PrintWords Go.Proofs.YthfpfogodggdmaaDoorW.PrintLast
theorem read_known : label_Read.f ⟨#[49, 58, 48, 50]⟩ = some (5, 1, 0) := by kernel_rfl
theorem print_known : label_Print.f 5 1 = some ⟨#[49, 58, 48, 50]⟩ := by kernel_rfl
theorem known_true : pyxlaw8_known.f = some true := by
  unfold pyxlaw8_known.f
  rw [read_known, print_known]
  simp [ByteArray.toList_eq]
/-- a number that Pick gives -/
theorem pick_some (a n : Int) (hn : 0 < n) (hn2 : n < 1000000) : ∃ m : Nat, (m : Int) < n ∧ pyxhand_Pick.f a n = some (m : Int) := by
  have h1 := Int.tmod_lt_of_pos a hn
  have h2 := Int.lt_tmod_of_pos a hn
  unfold pyxhand_Pick.f
  rw [if_neg (by omega)]
  by_cases h : Int.tmod a n < 0
  · rw [if_pos h]
    refine ⟨(Int.tmod a n + n).toNat, by omega, ?_⟩
    rw [show wrap64 (Int.tmod a n + n) = Int.tmod a n + n by unfold wrap64; omega]
    exact congrArg some (by omega)
  · rw [if_neg h]
    exact ⟨(Int.tmod a n).toNat, by omega, congrArg some (by omega)⟩
/-- the members of a set among 8, as the code lists them -/
def mem (m : Nat) : List Int := ((List.range 8).filter fun k : Nat => m.testBit k).map fun k : Nat => (k : Int)
theorem members_lv : ∀ (k : Nat) (x : List Int) (i s lv : Int), label_Members.l0 k x i s lv = label_Members.l0 k x i s 0
  | 0, _, _, _, _ => rfl
  | k + 1, x, i, s, lv => by
    simp only [label_Members.l0]
    rw [members_lv k x (wrap64 (i + 1)) s lv, members_lv k (x ++ [i]) (wrap64 (i + 1)) s lv]
theorem members_all : ((List.range 256).all fun m => label_Members.f 10 (m : Int) 0 == some (mem m)) = true := by kernel_rfl
theorem leO_add {α : Type} (f : Nat → Option α) (h : ∀ k, LeO (f k) (f (k + 1))) (k : Nat) (r : α) (hr : f k = some r) : ∀ d, f (k + d) = some r
  | 0 => hr
  | d + 1 => h (k + d) r (leO_add f h k r hr d)
theorem members (m : Nat) (hm : m < 256) (lv : Int) (k : Nat) (hk : 10 ≤ k) : label_Members.f k (m : Int) lv = some (mem m) := by
  have h := eq_of_beq (List.all_eq_true.mp members_all m (List.mem_range.mpr hm))
  have h2 : label_Members.f 10 (m : Int) lv = some (mem m) := by
    unfold label_Members.f at h ⊢
    rw [members_lv]
    exact h
  have h3 := leO_add (fun k => label_Members.f k (m : Int) lv) (fun k => label_Members.mono _ _ k) 10 _ h2 (k - 10)
  rwa [show 10 + (k - 10) = k by omega] at h3
theorem u64_small (n : Int) (h0 : 0 ≤ n) (h1 : n < 2 ^ 8) : IntKind.u64.wrap n = n := by
  simp only [IntKind.wrap, IntKind.bits, IntKind.signed]
  simp
  omega
theorem and_eq (a b : Nat) (ha : a < 256) (hb : b < 256) : Go.bits .and .u64 (a : Int) (b : Int) = ((a &&& b : Nat) : Int) := (bits_nat .u64 8 (by decide) u64_small a b ha hb).1
theorem or_eq (a b : Nat) (ha : a < 256) (hb : b < 256) : Go.bits .or .u64 (a : Int) (b : Int) = ((a ||| b : Nat) : Int) := (bits_nat .u64 8 (by decide) u64_small a b ha hb).2
theorem bits_high (a : Nat) (ha : a < 256) (i : Nat) (hi : 8 ≤ i) : a.testBit i = false :=
  Nat.testBit_lt_two_pow (Nat.lt_of_lt_of_le ha (Nat.pow_le_pow_right (n := 2) (by decide) hi))
theorem andNot_zero (a b : Nat) (ha : a < 256) (hb : b < 256) : Go.bits .andNot .u64 (a : Int) (b : Int) = 0 ↔ ∀ k, k < 8 → a.testBit k = true → b.testBit k = true := by
  have hz : Go.bits .andNot .u64 (a : Int) (b : Int) = 0 ↔ (BitVec.ofNat 64 a &&& ~~~BitVec.ofNat 64 b) = 0#64 := by
    show IntKind.u64.wrap (((BitVec.ofInt 64 (a : Int)) &&& ~~~(BitVec.ofInt 64 (b : Int))).toNat : Int) = 0 ↔ _
    rw [BitVec.ofInt_natCast, BitVec.ofInt_natCast]
    generalize BitVec.ofNat 64 a &&& ~~~BitVec.ofNat 64 b = v
    have hv := v.isLt
    have hw : IntKind.u64.wrap (v.toNat : Int) = (v.toNat : Int) := by
      simp only [IntKind.wrap, IntKind.bits, IntKind.signed]
      simp
      omega
    rw [hw]
    constructor
    · intro h
      apply BitVec.eq_of_toNat_eq
      simpa using (by exact_mod_cast h : v.toNat = 0)
    · rintro rfl
      rfl
  rw [hz]
  constructor
  · intro h k hk h1
    have h2 := congrArg (fun v : BitVec 64 => v.getLsbD k) h
    simp only [BitVec.getLsbD_and, BitVec.getLsbD_not, BitVec.getLsbD_ofNat, BitVec.getLsbD_zero, h1, show k < 64 by omega, decide_true, Bool.true_and, Bool.not_eq_false'] at h2
    simpa using h2
  · intro h
    apply BitVec.eq_of_getLsbD_eq
    intro i hi
    simp only [BitVec.getLsbD_and, BitVec.getLsbD_not, BitVec.getLsbD_ofNat, BitVec.getLsbD_zero, hi, decide_true, Bool.true_and]
    by_cases h8 : i < 8
    · cases h1 : a.testBit i
      · simp
      · simp [h i h8 h1]
    · simp [bits_high a ha i (by omega)]
theorem sub_iff (a b : Nat) (ha : a < 256) : (∀ k, k < 8 → a.testBit k = true → b.testBit k = true) ↔ a &&& b = a := by
  constructor
  · intro h
    apply Nat.eq_of_testBit_eq
    intro i
    rw [Nat.testBit_and]
    cases h1 : a.testBit i
    · rfl
    · by_cases h8 : i < 8
      · rw [h i h8 h1]; rfl
      · rw [bits_high a ha i (by omega)] at h1; cases h1
  · intro h k _ h1
    have h2 := congrArg (fun n : Nat => n.testBit k) h
    simp only [Nat.testBit_and, h1, Bool.true_and] at h2
    exact h2
/-- below, told plainly -/
def bl (a b : Nat) (la lb : Int) : Bool := decide (a &&& b = a) && decide (la ≤ lb)
theorem below_f (a b : Nat) (ha : a < 256) (hb : b < 256) (la lb : Int) : label_Below.f (a : Int) la (b : Int) lb = some (bl a b la lb) := by
  unfold label_Below.f bl
  by_cases h : a &&& b = a
  · rw [if_pos ((andNot_zero a b ha hb).mpr ((sub_iff a b ha).mpr h))]
    simp [h]
  · rw [if_neg (fun g => h ((sub_iff a b ha).mp ((andNot_zero a b ha hb).mp g)))]
    simp [h]
theorem bl_true (a b : Nat) (la lb : Int) : bl a b la lb = true ↔ a &&& b = a ∧ la ≤ lb := by simp [bl]
theorem join_f (a b : Nat) (ha : a < 256) (hb : b < 256) (la lb : Int) : label_Join.f (a : Int) la (b : Int) lb = some (((a ||| b : Nat) : Int), mx la lb) := by
  unfold label_Join.f
  rw [or_eq a b ha hb]
theorem meet_f (a b : Nat) (ha : a < 256) (hb : b < 256) (la lb : Int) : label_Meet.f (a : Int) la (b : Int) lb = some (((a &&& b : Nat) : Int), mn la lb) := by
  unfold label_Meet.f
  rw [and_eq a b ha hb]
theorem mx_le (a b c : Int) : mx a b ≤ c ↔ a ≤ c ∧ b ≤ c := by unfold mx; split <;> omega
theorem le_mn (a b c : Int) : c ≤ mn a b ↔ c ≤ a ∧ c ≤ b := by unfold mn; split <;> omega
theorem ext_le {a b : Int} (h : ∀ c : Int, a ≤ c ↔ b ≤ c) : a = b := by have h1 := (h a).mp (by omega); have h2 := (h b).mpr (by omega); omega
theorem ext_ge {a b : Int} (h : ∀ c : Int, c ≤ a ↔ c ≤ b) : a = b := by have h1 := (h a).mp (by omega); have h2 := (h b).mpr (by omega); omega
theorem order_walk (a0 a1 a2 a3 a4 a5 : Int) (w : World) :
    Calls Tryd.prog 3 #[.int .i64 a0, .int .i64 a1, .int .i64 a2, .int .i64 a3, .int .i64 a4, .int .i64 a5] w fun e w' => e = .returned (.bool true) ∧ Below w.heap.size w w' := by
  obtain ⟨A, hA, p0⟩ := pick_some a0 256 (by decide) (by decide)
  obtain ⟨la, hla, p1⟩ := pick_some a1 4 (by decide) (by decide)
  obtain ⟨B, hB, p2⟩ := pick_some a2 256 (by decide) (by decide)
  obtain ⟨lb, hlb, p3⟩ := pick_some a3 4 (by decide) (by decide)
  obtain ⟨C, hC, p4⟩ := pick_some a4 256 (by decide) (by decide)
  obtain ⟨lc, hlc, p5⟩ := pick_some a5 4 (by decide) (by decide)
  have hA' : A < 256 := by omega
  have hB' : B < 256 := by omega
  have hC' : C < 256 := by omega
  have hJ' : A ||| B < 256 := Nat.or_lt_two_pow (n := 8) hA' hB'
  have hI' : A &&& B < 256 := Nat.and_lt_two_pow (n := 8) A hB'
  have hK' : B ||| C < 256 := Nat.or_lt_two_pow (n := 8) hB' hC'
  have bits : ∀ {x y : Nat}, (∀ i, x.testBit i = y.testBit i) → x = y := fun h => Nat.eq_of_testBit_eq h
  refine order_one a0 a1 a2 a3 a4 a5 A la B lb C lc ((A ||| B : Nat) : Int) (mx la lb) ((A &&& B : Nat) : Int) (mn la lb) ((B ||| C : Nat) : Int) (mx lb lc) (((A ||| B) ||| C : Nat) : Int) (mx (mx la lb) lc)
    (bl A B la lb) (bl B A lb la) (bl B C lb lc) (bl A C la lc) (bl C A lc la) (bl C B lc lb) w ⟨p0⟩ ⟨p1⟩ ⟨p2⟩ ⟨p3⟩ ⟨p4⟩ ⟨p5⟩ (u64_small _ (by omega) (by omega)) (u64_small _ (by omega) (by omega)) (u64_small _ (by omega) (by omega)) ⟨known_true⟩
    ⟨join_f A B hA' hB' _ _⟩ ⟨?_⟩ ⟨meet_f A B hA' hB' _ _⟩ ⟨?_⟩ ⟨join_f B C hB' hC' _ _⟩ ⟨?_⟩ ⟨join_f (A ||| B) C hJ' hC' _ _⟩ ⟨?_⟩ ⟨?_⟩ ⟨?_⟩ ⟨?_⟩ ⟨?_⟩ ⟨?_⟩ ⟨?_⟩
    ⟨below_f A B hA' hB' _ _⟩ ⟨below_f B A hB' hA' _ _⟩ ⟨below_f B C hB' hC' _ _⟩ ⟨below_f A C hA' hC' _ _⟩ ⟨below_f C A hC' hA' _ _⟩ ⟨below_f C B hC' hB' _ _⟩ ⟨?_⟩ ⟨?_⟩ ⟨?_⟩ ⟨?_⟩ ?_
  · rw [join_f B A hB' hA', Nat.or_comm, show mx (lb : Int) la = mx la lb from ext_le (fun c => by rw [mx_le, mx_le, and_comm])]
  · rw [meet_f B A hB' hA', Nat.and_comm, show mn (lb : Int) la = mn la lb from ext_ge (fun c => by rw [le_mn, le_mn, and_comm])]
  · rw [join_f A (B ||| C) hA' hK', Nat.or_assoc, show mx (la : Int) (mx lb lc) = mx (mx la lb) lc from ext_le (fun c => by rw [mx_le, mx_le, mx_le, mx_le, and_assoc])]
  · rw [join_f A (A &&& B) hA' hI', show A ||| (A &&& B) = A from bits (fun i => by rw [Nat.testBit_or, Nat.testBit_and]; cases A.testBit i <;> simp), show mx (la : Int) (mn la lb) = la from ext_le (fun c => by rw [mx_le]; unfold mn; split <;> omega)]
  · rw [meet_f A (A ||| B) hA' hJ', show A &&& (A ||| B) = A from bits (fun i => by rw [Nat.testBit_and, Nat.testBit_or]; cases A.testBit i <;> simp), show mn (la : Int) (mx la lb) = la from ext_ge (fun c => by rw [le_mn]; unfold mx; split <;> omega)]
  · rw [below_f A A hA' hA']; exact congrArg some ((bl_true _ _ _ _).mpr ⟨Nat.and_self A, Int.le_refl _⟩)
  · rw [below_f A (A ||| B) hA' hJ']; exact congrArg some ((bl_true _ _ _ _).mpr ⟨bits (fun i => by rw [Nat.testBit_and, Nat.testBit_or]; cases A.testBit i <;> simp), ((mx_le _ _ _).mp (Int.le_refl _)).1⟩)
  · rw [below_f B (A ||| B) hB' hJ']; exact congrArg some ((bl_true _ _ _ _).mpr ⟨bits (fun i => by rw [Nat.testBit_and, Nat.testBit_or]; cases B.testBit i <;> simp), ((mx_le _ _ _).mp (Int.le_refl _)).2⟩)
  · rw [below_f (A &&& B) A hI' hA']; exact congrArg some ((bl_true _ _ _ _).mpr ⟨bits (fun i => by simp only [Nat.testBit_and]; cases A.testBit i <;> simp), ((le_mn _ _ _).mp (Int.le_refl _)).1⟩)
  · rw [below_f (A &&& B) B hI' hB']; exact congrArg some ((bl_true _ _ _ _).mpr ⟨bits (fun i => by simp only [Nat.testBit_and]; cases B.testBit i <;> simp), ((le_mn _ _ _).mp (Int.le_refl _)).2⟩)
  · intro h1 h2
    obtain ⟨e1, l1⟩ := (bl_true _ _ _ _).mp h1
    obtain ⟨e2, l2⟩ := (bl_true _ _ _ _).mp h2
    rw [Nat.and_comm] at e2
    exact ⟨by rw [← e1, e2], by omega⟩
  · intro h1 h2
    obtain ⟨e1, l1⟩ := (bl_true _ _ _ _).mp h1
    obtain ⟨e2, l2⟩ := (bl_true _ _ _ _).mp h2
    exact (bl_true _ _ _ _).mpr ⟨by rw [← e1, Nat.and_assoc, e2], by omega⟩
  · intro h1 h2
    obtain ⟨e1, l1⟩ := (bl_true _ _ _ _).mp h1
    obtain ⟨e2, l2⟩ := (bl_true _ _ _ _).mp h2
    rw [below_f (A ||| B) C hJ' hC']
    exact congrArg some ((bl_true _ _ _ _).mpr ⟨by rw [Nat.and_comm, Nat.and_or_distrib_left, Nat.and_comm C A, Nat.and_comm C B, e1, e2], (mx_le _ _ _).mpr ⟨l1, l2⟩⟩)
  · intro h1 h2
    obtain ⟨e1, l1⟩ := (bl_true _ _ _ _).mp h1
    obtain ⟨e2, l2⟩ := (bl_true _ _ _ _).mp h2
    rw [below_f C (A &&& B) hC' hI']
    exact congrArg some ((bl_true _ _ _ _).mpr ⟨by rw [← Nat.and_assoc, e1, e2], (le_mn _ _ _).mpr ⟨l1, l2⟩⟩)
  · rw [Bool.eq_iff_iff, bl_true, Bool.and_eq_true, beq_iff_eq, beq_iff_eq]
    constructor
    · rintro ⟨h1, h2⟩
      have h3 : A ||| B = B := by exact_mod_cast h1
      refine ⟨?_, by have := (mx_le (la : Int) lb lb).mp (by omega); omega⟩
      conv => lhs; rw [← h3]
      exact bits (fun i => by rw [Nat.testBit_and, Nat.testBit_or]; cases A.testBit i <;> simp)
    · rintro ⟨h1, h2⟩
      refine ⟨?_, ext_le (fun c => by rw [mx_le]; omega)⟩
      have h3 : A ||| B = B := by
        conv => lhs; lhs; rw [← h1]
        exact bits (fun i => by rw [Nat.testBit_or, Nat.testBit_and]; cases B.testBit i <;> simp)
      rw [h3]
end Go.Proofs.YthfpfogodggdmaaDoor.Pure
