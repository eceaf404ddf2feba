/- The plain law of LabelSets: a label of members among 8 and a level among 4 is below another one just where its members are among the other's and its level is not above; the numbers of members of the Meet and of the Join add up. No condition. -/
import Derived.Test.YthfpfogodggdmaaDoorPLabelSetsx3
import Derived.KernelRfl
namespace Go.Proofs.YthfpfogodggdmaaDoor.Pure
open Go.RowKit Go.Proofs.YthfpfogodggdmaaDoor.PLabelSets Go.Proofs.YthfpfogodggdmaaDoorW.PrintWords Go.Proofs.YthfpfogodggdmaaDoorW.PrintLast
theorem read_known : label_Read.f ⟨#[49, 58, 48, 50]⟩ = some (5, 1, 0) := by kernel_rfl
theorem print_known : label_Print.f 5 1 = some ⟨#[49, 58, 48, 50]⟩ := by kernel_rfl
theorem known_true : pyxlaw8_known.f = some true := by
  unfold pyxlaw8_known.f
  rw [read_known, print_known]
  simp [ByteArray.toList_eq]
/-- a number that Pick gives -/
theorem pick_some (a n : Int) (hn : 0 < n) (hn2 : n < 1000000) : ∃ m : Nat, (m : Int) < n ∧ pyxhand_Pick.f a n = some (m : Int) := by
  have h1 := Int.tmod_lt_of_pos a hn
  have h2 := Int.lt_tmod_of_pos a hn
  unfold pyxhand_Pick.f
  rw [if_neg (by omega)]
  by_cases h : Int.tmod a n < 0
  · rw [if_pos h]
    refine ⟨(Int.tmod a n + n).toNat, by omega, ?_⟩
    rw [show wrap64 (Int.tmod a n + n) = Int.tmod a n + n by unfold wrap64; omega]
    exact congrArg some (by omega)
  · rw [if_neg h]
    exact ⟨(Int.tmod a n).toNat, by omega, congrArg some (by omega)⟩
/-- the members of a set among 8, as the code lists them -/
def mem (m : Nat) : List Int := ((List.range 8).filter fun k : Nat => m.testBit k).map fun k : Nat => (k : Int)
theorem members_lv : ∀ (k : Nat) (x : List Int) (i s lv : Int), label_Members.l0 k x i s lv = label_Members.l0 k x i s 0
  | 0, _, _, _, _ => rfl
  | k + 1, x, i, s, lv => by
    simp only [label_Members.l0]
    rw [members_lv k x (wrap64 (i + 1)) s lv, members_lv k (x ++ [i]) (wrap64 (i + 1)) s lv]
theorem members_all : ((List.range 256).all fun m => label_Members.f 10 (m : Int) 0 == some (mem m)) = true := by kernel_rfl
theorem leO_add {α : Type} (f : Nat → Option α) (h : ∀ k, LeO (f k) (f (k + 1))) (k : Nat) (r : α) (hr : f k = some r) : ∀ d, f (k + d) = some r
  | 0 => hr
  | d + 1 => h (k + d) r (leO_add f h k r hr d)
theorem members (m : Nat) (hm : m < 256) (lv : Int) (k : Nat) (hk : 10 ≤ k) : label_Members.f k (m : Int) lv = some (mem m) := by
  have h := eq_of_beq (List.all_eq_true.mp members_all m (List.mem_range.mpr hm))
  have h2 : label_Members.f 10 (m : Int) lv = some (mem m) := by
    unfold label_Members.f at h ⊢
    rw [members_lv]
    exact h
  have h3 := leO_add (fun k => label_Members.f k (m : Int) lv) (fun k => label_Members.mono _ _ k) 10 _ h2 (k - 10)
  rwa [show 10 + (k - 10) = k by omega] at h3
theorem u64_small (n : Int) (h0 : 0 ≤ n) (h1 : n < 2 ^ 8) : IntKind.u64.wrap n = n := by
  simp only [IntKind.wrap, IntKind.bits, IntKind.signed]
  simp
  omega
theorem and_eq (a b : Nat) (ha : a < 256) (hb : b < 256) : Go.bits .and .u64 (a : Int) (b : Int) = ((a &&& b : Nat) : Int) := (bits_nat .u64 8 (by decide) u64_small a b ha hb).1
theorem or_eq (a b : Nat) (ha : a < 256) (hb : b < 256) : Go.bits .or .u64 (a : Int) (b : Int) = ((a ||| b : Nat) : Int) := (bits_nat .u64 8 (by decide) u64_small a b ha hb).2
theorem bits_high (a : Nat) (ha : a < 256) (i : Nat) (hi : 8 ≤ i) : a.testBit i = false :=
  Nat.testBit_lt_two_pow (Nat.lt_of_lt_of_le ha (Nat.pow_le_pow_right (n := 2) (by decide) hi))
theorem andNot_zero (a b : Nat) (ha : a < 256) (hb : b < 256) : Go.bits .andNot .u64 (a : Int) (b : Int) = 0 ↔ ∀ k, k < 8 → a.testBit k = true → b.testBit k = true := by
  have hz : Go.bits .andNot .u64 (a : Int) (b : Int) = 0 ↔ (BitVec.ofNat 64 a &&& ~~~BitVec.ofNat 64 b) = 0#64 := by
    show IntKind.u64.wrap (((BitVec.ofInt 64 (a : Int)) &&& ~~~(BitVec.ofInt 64 (b : Int))).toNat : Int) = 0 ↔ _
    rw [BitVec.ofInt_natCast, BitVec.ofInt_natCast]
    generalize BitVec.ofNat 64 a &&& ~~~BitVec.ofNat 64 b = v
    have hv := v.isLt
    have hw : IntKind.u64.wrap (v.toNat : Int) = (v.toNat : Int) := by
      simp only [IntKind.wrap, IntKind.bits, IntKind.signed]
      simp
      omega
    rw [hw]
    constructor
    · intro h
      apply BitVec.eq_of_toNat_eq
      simpa using (by exact_mod_cast h : v.toNat = 0)
    · rintro rfl
      rfl
  rw [hz]
  constructor
  · intro h k hk h1
    have h2 := congrArg (fun v : BitVec 64 => v.getLsbD k) h
    simp only [BitVec.getLsbD_and, BitVec.getLsbD_not, BitVec.getLsbD_ofNat, BitVec.getLsbD_zero, h1, show k < 64 by omega, decide_true, Bool.true_and, Bool.not_eq_false'] at h2
    simpa using h2
  · intro h
    apply BitVec.eq_of_getLsbD_eq
    intro i hi
    simp only [BitVec.getLsbD_and, BitVec.getLsbD_not, BitVec.getLsbD_ofNat, BitVec.getLsbD_zero, hi, decide_true, Bool.true_and]
    by_cases h8 : i < 8
    · cases h1 : a.testBit i
      · simp
      · simp [h i h8 h1]
    · simp [bits_high a ha i (by omega)]
theorem count_and_or (p q : Nat → Bool) : ∀ l : List Nat, (l.filter fun k => p k && q k).length + (l.filter fun k => p k || q k).length = (l.filter p).length + (l.filter q).length
  | [] => rfl
  | a :: l => by
    have ih := count_and_or p q l
    simp only [List.filter_cons]
    cases p a <;> cases q a <;> simp <;> omega
theorem lengths (a b : Nat) : (mem (a &&& b)).length + (mem (a ||| b)).length = (mem a).length + (mem b).length := by
  unfold mem
  simp only [List.length_map, Nat.testBit_and, Nat.testBit_or]
  exact count_and_or _ _ _
theorem mem_iff (m : Nat) (x : Int) : x ∈ mem m ↔ ∃ k : Nat, k < 8 ∧ m.testBit k = true ∧ x = (k : Int) := by
  unfold mem
  simp only [List.mem_map, List.mem_filter, List.mem_range]
  constructor
  · rintro ⟨k, ⟨h1, h2⟩, rfl⟩
    exact ⟨k, h1, h2, rfl⟩
  · rintro ⟨k, h1, h2, rfl⟩
    exact ⟨k, ⟨h1, h2⟩, rfl⟩
theorem in_iff (a b : Nat) : ((mem a).all fun x => (mem b).contains x) = true ↔ ∀ k, k < 8 → a.testBit k = true → b.testBit k = true := by
  rw [List.all_eq_true]
  constructor
  · intro h k hk h1
    have h2 := h (k : Int) ((mem_iff a _).mpr ⟨k, hk, h1, rfl⟩)
    obtain ⟨j, _, h3, h4⟩ := (mem_iff b _).mp (List.contains_iff_mem.mp h2)
    have : j = k := by omega
    exact this ▸ h3
  · intro h x hx
    obtain ⟨k, hk, h1, rfl⟩ := (mem_iff a x).mp hx
    exact List.contains_iff_mem.mpr ((mem_iff b _).mpr ⟨k, hk, h k hk h1, rfl⟩)
theorem mem_len (m : Nat) : (mem m).length ≤ 8 := by
  unfold mem
  rw [List.length_map]
  exact Nat.le_trans (List.length_filter_le _ _) (by simp)
theorem rd_get (l : List Int) (i : Nat) (hi : i < l.length) : rd l (i : Int) = l[i] := by simp [rd, hi]
theorem wrap_nat (i : Nat) (hi : i < 1000) : wrap64 ((i : Int) + 1) = ((i + 1 : Nat) : Int) := by unfold wrap64; omega
/-- the inner loop -/
theorem inner (L M : List Int) (hL : L.length ≤ 8) (n o x13 : Int) (sa la sb lb : Int) (x11 : Bool) : ∀ (d i : Nat) (x14 : Bool), i + d = L.length →
    (∃ K, pyxlaw8_LabelSets.l0 K (x11 && (x14 || (L.drop i).contains x13)) M n (wrap64 (o + 1)) sa la sb lb = some true) → ∃ K, pyxlaw8_LabelSets.l1 K x11 x13 x14 M n o L (L.length : Int) (i : Int) sa la sb lb = some true
  | 0, i, x14, hd, ⟨K, hK⟩ => by
    refine ⟨K + 1, ?_⟩
    rw [List.drop_eq_nil_of_le (by omega)] at hK
    simp only [List.contains_nil, Bool.or_false] at hK
    simp only [pyxlaw8_LabelSets.l1]
    rw [if_neg (by omega)]
    cases x11
    · simpa using hK
    · simpa using hK
  | d + 1, i, x14, hd, ⟨K, hK⟩ => by
    have hi : i < L.length := by omega
    rw [List.drop_eq_getElem_cons hi, List.contains_cons] at hK
    have step : ∃ K, pyxlaw8_LabelSets.l1 K x11 x13 (x14 || x13 == L[i]) M n o L (L.length : Int) ((i + 1 : Nat) : Int) sa la sb lb = some true := by
      refine inner L M hL n o x13 sa la sb lb x11 d (i + 1) _ (by omega) ⟨K, ?_⟩
      rw [Bool.or_assoc]
      exact hK
    obtain ⟨K2, hK2⟩ := step
    refine ⟨K2 + 1, ?_⟩
    simp only [pyxlaw8_LabelSets.l1]
    rw [if_pos (by omega), if_pos (by omega), if_pos (by omega), wrap_nat i (by omega), rd_get L i hi]
    cases x14
    · simp only [Bool.false_or] at hK2
      rw [if_neg (by decide), show (L[i] == x13) = (x13 == L[i]) from Bool.beq_comm ..]
      exact hK2
    · simpa using hK2
/-- the outer loop -/
theorem outer (a b : Nat) (ha : a < 256) (hb : b < 256) (la lb : Int) : ∀ (d i : Nat) (x11 : Bool), i + d = (mem a).length →
    (x11 && ((mem a).drop i).all fun x => (mem b).contains x) = ((mem a).all fun x => (mem b).contains x) → ∃ K, pyxlaw8_LabelSets.l0 K x11 (mem a) ((mem a).length : Int) (i : Int) (a : Int) la (b : Int) lb = some true
  | 0, i, x11, hd, hx => by
    refine ⟨11, ?_⟩
    rw [List.drop_eq_nil_of_le (by omega)] at hx
    simp only [List.all_nil, Bool.and_true] at hx
    simp only [pyxlaw8_LabelSets.l0]
    rw [if_neg (by omega)]
    have hand : a &&& b < 256 := Nat.and_lt_two_pow (n := 8) a hb
    have hor : a ||| b < 256 := Nat.or_lt_two_pow (n := 8) ha hb
    have hlen := lengths a b
    simp only [label_Meet.f, label_Join.f, Option.bind_some, and_eq a b ha hb, or_eq a b ha hb, members _ hand _ 10 (Nat.le_refl _), members _ hor _ 10 (Nat.le_refl _), members a ha _ 10 (Nat.le_refl _), members b hb _ 10 (Nat.le_refl _), known_true, if_true, label_Below.f]
    have hl : (wrap64 (((mem (a &&& b)).length : Int) + ((mem (a ||| b)).length : Int)) == wrap64 (((mem a).length : Int) + ((mem b).length : Int))) = true := by
      rw [show ((mem (a &&& b)).length : Int) + ((mem (a ||| b)).length : Int) = ((mem a).length : Int) + ((mem b).length : Int) by omega]
      simp
    rw [hl]
    by_cases hin : ∀ k, k < 8 → a.testBit k = true → b.testBit k = true
    · rw [if_pos ((andNot_zero a b ha hb).mpr hin)]
      rw [(in_iff a b).mpr hin] at hx
      subst hx
      simp
    · rw [if_neg (fun h => hin ((andNot_zero a b ha hb).mp h))]
      have hx2 : x11 = false := by
        rw [hx]
        cases h : ((mem a).all fun x => (mem b).contains x)
        · rfl
        · exact absurd ((in_iff a b).mp h) hin
      subst hx2
      simp
  | d + 1, i, x11, hd, hx => by
    have hi : i < (mem a).length := by omega
    have h8 := mem_len a
    rw [List.drop_eq_getElem_cons hi, List.all_cons] at hx
    have next : ∃ K, pyxlaw8_LabelSets.l0 K (x11 && (mem b).contains (mem a)[i]) (mem a) ((mem a).length : Int) ((i + 1 : Nat) : Int) (a : Int) la (b : Int) lb = some true := by
      refine outer a b ha hb la lb d (i + 1) _ (by omega) ?_
      rw [Bool.and_assoc]
      exact hx
    obtain ⟨K, hK⟩ := next
    obtain ⟨K2, hK2⟩ := inner (mem b) (mem a) (mem_len b) ((mem a).length : Int) (i : Int) (mem a)[i] (a : Int) la (b : Int) lb x11 (mem b).length 0 false (by omega) ⟨K, by rw [wrap_nat i (by omega)]; simpa using hK⟩
    have hK3 := leO_add (fun k => pyxlaw8_LabelSets.l1 k x11 (mem a)[i] false (mem a) ((mem a).length : Int) (i : Int) (mem b) ((mem b).length : Int) ((0 : Nat) : Int) (a : Int) la (b : Int) lb) (fun k => (pyxlaw8_LabelSets.mono_l k).2 _ _ _ _ _ _ _ _ _ _ _ _ _) K2 _ hK2 10
    refine ⟨K2 + 10 + 1, ?_⟩
    simp only [pyxlaw8_LabelSets.l0]
    rw [if_pos (by omega), if_pos (by omega), if_pos (by omega), members b hb lb (K2 + 10) (by omega), rd_get _ i hi]
    exact hK3
theorem LabelSets : pyxlaw8_LabelSets.Pure := by
  intro a0 a1 a2 a3 _ _ _ _
  obtain ⟨a, ha, h0⟩ := pick_some a0 256 (by decide) (by decide)
  obtain ⟨la, _, h1⟩ := pick_some a1 4 (by decide) (by decide)
  obtain ⟨b, hb, h2⟩ := pick_some a2 256 (by decide) (by decide)
  obtain ⟨lb, _, h3⟩ := pick_some a3 4 (by decide) (by decide)
  obtain ⟨K, hK⟩ := outer a b (by omega) (by omega) (la : Int) (lb : Int) (mem a).length 0 true (by omega) (by simp)
  have hK2 := leO_add (fun k => pyxlaw8_LabelSets.l0 k true (mem a) ((mem a).length : Int) ((0 : Nat) : Int) (a : Int) la (b : Int) lb) (fun k => (pyxlaw8_LabelSets.mono_l k).1 _ _ _ _ _ _ _ _) K _ hK 10
  refine ⟨K + 10, ?_⟩
  unfold pyxlaw8_LabelSets.f
  rw [h0, h1, h2, h3]
  simp only [Option.bind_some]
  rw [u64_small (a : Int) (by omega) (by omega), u64_small (b : Int) (by omega) (by omega), members a (by omega) _ (K + 10) (by omega)]
  exact hK2
end Go.Proofs.YthfpfogodggdmaaDoor.Pure
