/- WORDS OF THIS SESSION: memory that a call makes for its own variables, told as one list of blocks. -/
import Derived.Test.YthfpfogodggdmaaDoorWWords
import Derived.Test.YthfpfogodggdmaaDoorWMore
import Derived.Test.YthfpfogodggdmaaDoorWTab
import Derived.Test.YthfpfogodggdmaaDoorWLast
import Derived.WalkKit
import Derived.Laws.Rows
import Derived.Laws.CopyRow
import Derived.Deep.RegionHeld3
namespace Go.Proofs.YthfpfogodggdmaaDoorW.Box
open Go.Proofs.YthfpfogodggdmaaDoorW.PrintWords Go.Proofs.YthfpfogodggdmaaDoorW.PrintLast Go.Proofs.YthfpfogodggdmaaDoorW.PrintMore
open Go Go.RowKit
set_option linter.unusedVariables false

/-- The blocks bs are the call's own (it began at w0), each another one, and hold what is told. -/
def Own (w0 w : World) (bs : List (Nat × Array Value × Nat)) : Prop :=
  Below w0.heap.size w0 w ∧ bs.Pairwise (fun x y => x.1 ≠ y.1) ∧ ∀ b ∈ bs, w0.heap.size ≤ b.1 ∧ w.heap[b.1]? = some (.cells b.2.1 b.2.2 (0, 0))

theorem own_refl (w : World) : Own w w [] := ⟨Below.refl _ _, List.Pairwise.nil, fun _ h => by cases h⟩
theorem own_block {w0 w : World} {bs : List (Nat × Array Value × Nat)} (H : Own w0 w bs) {g : Nat} {cs : Array Value} {t : Nat} (hm : (g, cs, t) ∈ bs) : w.heap[g]? = some (.cells cs t (0, 0)) := (H.2.2 _ hm).2
theorem own_call {w0 w w1 : World} {bs : List (Nat × Array Value × Nat)} (H : Own w0 w bs) (hb : Below w.heap.size w w1) : Own w0 w1 bs :=
  ⟨below_step H.1 hb, H.2.1, fun b h => ⟨(H.2.2 b h).1, blk_below (H.2.2 b h).2 hb⟩⟩
theorem own_drewN {w0 w : World} {bs : List (Nat × Array Value × Nat)} (H : Own w0 w bs) (n : Nat) : Own w0 (w.drewN n) bs := ⟨pw_below_drewN H.1 n, H.2.1, fun b h => H.2.2 b h⟩
theorem own_drew {w0 w : World} {bs : List (Nat × Array Value × Nat)} (H : Own w0 w bs) : Own w0 w.drew bs := ⟨below_drew H.1, H.2.1, fun b h => H.2.2 b h⟩
theorem own_new {w0 w w1 : World} {bs : List (Nat × Array Value × Nat)} (H : Own w0 w bs) {g : Nat} (hg : g = w.heap.size) {cs : Array Value} {t : Nat} (hc : w1.heap[g]? = some (.cells cs t (0, 0))) (hb : Below w.heap.size w w1) : Own w0 w1 ((g, cs, t) :: bs) := by
  have h1 := own_call H hb
  refine ⟨h1.1, List.pairwise_cons.2 ⟨fun b h => ?_, H.2.1⟩, fun b h => ?_⟩
  · have := blk_lt (H.2.2 b h).2
    omega
  · rcases List.mem_cons.1 h with rfl | h
    · exact ⟨by rw [hg]; exact H.1.size, hc⟩
    · exact h1.2.2 b h
theorem own_alloc {w0 w : World} {bs : List (Nat × Array Value × Nat)} (H : Own w0 w bs) (cs : Array Value) (t : Nat) : Own w0 (w.alloc (.cells cs t (0, 0))) ((w.heap.size, cs, t) :: bs) :=
  own_new H rfl (blk_new _ _) (below_alloc (Below.refl _ _) _)

/-- The list with one block's content turned. -/
inductive Upd : List (Nat × Array Value × Nat) → Nat → Array Value → Nat → Array Value → List (Nat × Array Value × Nat) → Prop
  | head {g : Nat} {cs cs' : Array Value} {t : Nat} {bs : List (Nat × Array Value × Nat)} : Upd ((g, cs, t) :: bs) g cs t cs' ((g, cs', t) :: bs)
  | tail {b : Nat × Array Value × Nat} {g : Nat} {cs cs' : Array Value} {t : Nat} {bs bs' : List (Nat × Array Value × Nat)} (h : Upd bs g cs t cs' bs') : Upd (b :: bs) g cs t cs' (b :: bs')
theorem Upd.mem {bs bs' : List (Nat × Array Value × Nat)} {g t : Nat} {cs cs' : Array Value} (h : Upd bs g cs t cs' bs') : (g, cs, t) ∈ bs := by
  induction h with
  | head => exact .head _
  | tail _ ih => exact .tail _ ih
theorem Upd.names {bs bs' : List (Nat × Array Value × Nat)} {g t : Nat} {cs cs' : Array Value} (h : Upd bs g cs t cs' bs') : bs'.map (·.1) = bs.map (·.1) := by
  induction h with
  | head => rfl
  | tail _ ih => simp only [List.map_cons, ih]
theorem Upd.of_mem {bs bs' : List (Nat × Array Value × Nat)} {g t : Nat} {cs cs' : Array Value} (h : Upd bs g cs t cs' bs') (hp : bs.Pairwise (fun x y => x.1 ≠ y.1)) : ∀ b ∈ bs', b = (g, cs', t) ∨ (b ∈ bs ∧ b.1 ≠ g) := by
  induction h with
  | head =>
    intro b hb
    rcases List.mem_cons.1 hb with rfl | hb
    · exact .inl rfl
    · exact .inr ⟨.tail _ hb, fun e => (List.pairwise_cons.1 hp).1 b hb e.symm⟩
  | tail hu ih =>
    intro b hb
    obtain ⟨hp1, hp2⟩ := List.pairwise_cons.1 hp
    rcases List.mem_cons.1 hb with rfl | hb
    · exact .inr ⟨.head _, hp1 _ hu.mem⟩
    · rcases ih hp2 b hb with h | ⟨h, hne⟩
      · exact .inl h
      · exact .inr ⟨.tail _ h, hne⟩
theorem own_upd {w0 w : World} {bs bs' : List (Nat × Array Value × Nat)} (H : Own w0 w bs) {g t : Nat} {cs cs' : Array Value} (hu : Upd bs g cs t cs' bs') : Own w0 (w.setRow g cs') bs' := by
  have hg := H.2.2 _ hu.mem
  refine ⟨⟨H.1.os, H.1.tape, H.1.output, by rw [size_setRow]; exact H.1.size, fun k hk => ?_⟩, ?_, fun b hb => ?_⟩
  · rw [setRow_other w g k cs' (by have := hg.1; omega)]
    exact H.1.block k hk
  · have h2 := List.pairwise_map (R := (· ≠ ·)) (f := (·.1)) (l := bs)
    have h3 := List.pairwise_map (R := (· ≠ ·)) (f := (·.1)) (l := bs')
    exact h3.1 (hu.names ▸ h2.2 H.2.1)
  · rcases hu.of_mem H.2.1 b hb with rfl | ⟨h, hne⟩
    · exact ⟨hg.1, setRow_heap w g cs cs' t (0, 0) hg.2⟩
    · exact ⟨(H.2.2 b h).1, (setRow_other w g b.1 cs' hne).trans (H.2.2 b h).2⟩

theorem ite_elim {c : Prop} [Decidable c] {α : Type} {x y : Option α} {r : α} {G : Prop} (H : (if c then x else y) = some r) (h1 : c → x = some r → G) (h2 : ¬ c → y = some r → G) : G := by
  by_cases h : c
  · rw [if_pos h] at H; exact h1 h H
  · rw [if_neg h] at H; exact h2 h H
theorem bind_elim {α β : Type} {x : Option β} {f : β → Option α} {r : α} {G : Prop} (H : x.bind f = some r) (h : ∀ b, x = some b → f b = some r → G) : G := by
  obtain ⟨b, h1, h2⟩ := Option.bind_eq_some_iff.1 H
  exact h b h1 h2
theorem some_elim {α : Type} {a r : α} {G : Prop} (H : some a = some r) (h : a = r → G) : G := h (Option.some.inj H)
theorem none_elim {α : Type} {r : α} {G : Prop} (H : (none : Option α) = some r) : G := by cases H
theorem drawn_below {w w' : World} (h : Drawn0 w w') : Below w.heap.size w w' := h.below
/-- bs stands at the end of bs1. -/
inductive Suf : List (Nat × Array Value × Nat) → List (Nat × Array Value × Nat) → Prop
  | refl {bs : List (Nat × Array Value × Nat)} : Suf bs bs
  | cons {b : Nat × Array Value × Nat} {bs bs1 : List (Nat × Array Value × Nat)} (h : Suf bs bs1) : Suf bs (b :: bs1)
theorem own_suf {w0 w : World} {bs bs1 : List (Nat × Array Value × Nat)} (H : Own w0 w bs1) (h : Suf bs bs1) : Own w0 w bs := by
  induction h with
  | refl => exact H
  | cons _ ih => exact ih ⟨H.1, (List.pairwise_cons.1 H.2.1).2, fun b hb => H.2.2 b (.tail _ hb)⟩
/-- A block's cells, and all blocks' cells, as plain facts. -/
def cellsAt (w : World) (g : Nat) : Nat → List Value → Prop
  | _, [] => True
  | j, v :: vs => w.cell? ⟨g, j, none⟩ = some v ∧ cellsAt w g (j + 1) vs
def allCells (w : World) : List (Nat × Array Value × Nat) → Prop
  | [] => True
  | b :: bs => (∀ j, w.frozen? ⟨b.1, j, none⟩ = false) ∧ cellsAt w b.1 0 b.2.1.toList ∧ allCells w bs
theorem cellsAt_of (w : World) (g : Nat) (cs : Array Value) (h : ∀ j, w.cell? ⟨g, j, none⟩ = cs[j]?) : ∀ (l : List Value) (j : Nat), cs.toList.drop j = l → cellsAt w g j l
  | [], _, _ => trivial
  | v :: vs, j, e => by
    have hj : cs[j]? = some v := by
      have := congrArg (fun l => l[0]?) e
      simpa [List.getElem?_drop] using this
    refine ⟨(h j).trans hj, cellsAt_of w g cs h vs (j + 1) ?_⟩
    have := congrArg (List.drop 1) e
    simpa [List.drop_drop, Nat.add_comm] using this
theorem allCells_of {w0 w : World} : ∀ {bs : List (Nat × Array Value × Nat)}, (∀ b ∈ bs, w0.heap.size ≤ b.1 ∧ w.heap[b.1]? = some (.cells b.2.1 b.2.2 (0, 0))) → allCells w bs
  | [], _ => trivial
  | b :: bs, h => ⟨fun j => blk_frozen (h b (.head _)).2 j, cellsAt_of w b.1 b.2.1 (fun j => blk_cell (h b (.head _)).2 j) _ 0 rfl, allCells_of fun c hc => h c (.tail _ hc)⟩
theorem own_cells {w0 w : World} {bs : List (Nat × Array Value × Nat)} (H : Own w0 w bs) : allCells w bs := allCells_of H.2.2

section
variable {P : Program} {ops : Array Oper} {rest : List Oper} {o : Oper} {a : Act} {Q : Exit → Act → World → Prop} {w0 W : World} {bs : List (Nat × Array Value × Nat)}
theorem eventW {W1 : World} {v : Value} (hw : Region.wanted o (yielded ops a.tmps) = true) (hrun : (execOp a.eval o).run P W = .ok (.value v) W1) (h : wpList P ops Q rest (a.put o.dst v) W1) : wpList P ops Q (o :: rest) a W := by
  refine wpList_step fun K hK => ?_
  rw [if_pos hw]
  unfold Oper.wp
  rw [hrun]
  exact hK _ _ h
theorem gateA {t0 : TypeId} (_ho : o.op = .alloc t0) (h : wpList P ops Q (o :: rest) a W) : wpList P ops Q (o :: rest) a W := h
theorem gateB {t0 : TypeId} {x : Operand} (_ho : o.op = .box t0 x) (h : wpList P ops Q (o :: rest) a W) : wpList P ops Q (o :: rest) a W := h
theorem gateL {t0 : TypeId} {x : Operand} (_ho : o.op = .load t0 x) (h : wpList P ops Q (o :: rest) a W) : wpList P ops Q (o :: rest) a W := h
theorem gateS {t0 : TypeId} {x y : Operand} (_ho : o.op = .store t0 x y) (h : wpList P ops Q (o :: rest) a W) : wpList P ops Q (o :: rest) a W := h
/-- A type's zero cells. -/
def ZeroIs (P : Program) (t : TypeId) (cs : List Value) : Prop := (P.info? t).map (fun i => i.zero.map (fun v => v.cells.toList)) = some (some cs)
/-- A variable is laid in memory. -/
theorem st_alloc (H : Aside0 (Own w0 W bs)) {t0 : TypeId} (ho : o.op = .alloc t0) (hw : Region.wanted o (yielded ops a.tmps) = true) {cs : List Value} (hz : ZeroIs P t0 cs)
    (h : ∀ (g : Nat) (w1 : World), Aside0 (Own w0 w1 ((g, cs.toArray, t0) :: bs)) → wpList P ops Q rest (a.put o.dst (.pointer (some ⟨g, 0, none⟩))) w1) : wpList P ops Q (o :: rest) a W := by
  refine eventW hw ?_ (h _ _ ⟨own_alloc H.out cs.toArray t0⟩)
  obtain ⟨i, hi, h1⟩ := Option.map_eq_some_iff.1 hz
  obtain ⟨z, hz1, h2⟩ := Option.map_eq_some_iff.1 h1
  have e : z.cells = cs.toArray := by rw [← h2]
  have hw : W.alloc (.cells z.cells t0) = W.alloc (.cells cs.toArray t0) := by rw [e]
  have hr : (execOp a.eval o).run P W = .ok (.value (.pointer (some ⟨W.heap.size, 0, none⟩))) (W.alloc (.cells z.cells t0)) := by
    unfold execOp
    simp [ho, go_sem, Instr.alloc, newVar, newRow, zeroValue, typeInfo, hi, hz1]
  rw [hr, hw]
theorem st_box (H : Aside0 (Own w0 W bs)) {t0 : TypeId} {x : Operand} (ho : o.op = .box t0 x) (hw : Region.wanted o (yielded ops a.tmps) = true) {cs : List Value} (hx : a.eval x = .agg cs.toArray)
    (h : ∀ (g : Nat) (w1 : World), Aside0 (Own w0 w1 ((g, cs.toArray, t0) :: bs)) → wpList P ops Q rest (a.put o.dst (.pointer (some ⟨g, 0, none⟩))) w1) : wpList P ops Q (o :: rest) a W := by
  refine eventW hw ?_ (h _ _ ⟨own_alloc H.out cs.toArray t0⟩)
  unfold execOp
  rw [ho]
  simp only [hx]
  simp [go_sem]
/-- The cells from off on, turned. -/
def putAt : List Value → Nat → List Value → List Value
  | l, 0, [] => l
  | _ :: l, 0, v :: vs => v :: putAt l 0 vs
  | [], 0, _ :: _ => []
  | c :: l, n + 1, vs => c :: putAt l n vs
  | [], _ + 1, _ => []
theorem putAt_eq : ∀ (l : List Value) (off : Nat) (vs : List Value), off + vs.length ≤ l.length → putAt l off vs = l.take off ++ vs ++ l.drop (off + vs.length)
  | l, 0, [], _ => by simp [putAt]
  | [], 0, v :: vs, h => by simp at h
  | c :: l, 0, v :: vs, h => by
    have := putAt_eq l 0 vs (by simp at h ⊢; omega)
    simp only [putAt, this, List.take_zero, List.nil_append, List.length_cons, Nat.zero_add, List.drop_succ_cons, List.cons_append]
  | [], n + 1, vs, h => by simp at h
  | c :: l, n + 1, vs, h => by
    have := putAt_eq l n vs (by simp at h ⊢; omega)
    simp only [putAt, this, List.take_succ_cons, List.cons_append, List.cons.injEq, true_and]
    rw [show n + 1 + vs.length = (n + vs.length) + 1 by omega, List.drop_succ_cons]
/-- A store into a variable of one's own. -/
theorem run_storeOwn {w : World} {g off t : Nat} {ty : TypeId} {cs : Array Value} {u : Value} {vs : List Value} (hh : w.heap[g]? = some (.cells cs t (0, 0))) (hu : u.cells.toList = vs) (ht : (P.info? ty).map (·.size) = some vs.length) (hfit : off + vs.length ≤ cs.toList.length) (h1 : ∀ q ∈ vs, q.oneCell' = true) :
    (Instr.storeAt ty (.pointer (some ⟨g, off, none⟩)) u).run P w = .ok () (w.setRow g (putAt cs.toList off vs).toArray) := by
  obtain ⟨i, hi, hsz⟩ := Option.map_eq_some_iff.1 ht
  have hc : u.cells.size = i.size := by rw [hsz, ← hu, Array.length_toList]
  have hst := run_storeCells_at P g off t vs 0 cs w hh (by simpa using hfit) h1
  rw [putAt_eq _ _ _ hfit]
  simp only [Nat.add_zero] at hst
  simp [Instr.storeAt, Instr.sureAddr, storeVar, sizeOf, typeInfo, hi, hc, hu, hst]
theorem st_store (H : Aside0 (Own w0 W bs)) {ty : TypeId} {x y : Operand} (ho : o.op = .store ty x y) (hw : Region.wanted o (yielded ops a.tmps) = true) (hN : o.dst = none) {g off : Nat} (hx : a.eval x = .pointer (some ⟨g, off, none⟩)) {cs cs' : Array Value} {t : Nat} {bs' : List (Nat × Array Value × Nat)} (hm : Upd bs g cs t cs' bs')
    {u : Value} (hy : a.eval y = u) {vs : List Value} (hu : u.cells.toList = vs) (ht : (P.info? ty).map (·.size) = some vs.length) (hfit : off + vs.length ≤ cs.toList.length) (h1 : ∀ q ∈ vs, q.oneCell' = true) (hc : cs' = (putAt cs.toList off vs).toArray)
    (h : ∀ w1 : World, Aside0 (Own w0 w1 bs') → wpList P ops Q rest a w1) : wpList P ops Q (o :: rest) a W := by
  subst hc
  have h' := h _ ⟨own_upd H.out hm⟩
  have e : ∀ v, a.put o.dst v = a := fun v => by rw [hN]; rfl
  refine wpList_step fun K hK => ?_
  rw [if_pos hw]
  unfold Oper.wp execOp
  simp only [ho, hx, hy, Sem.run_bind, run_storeOwn (own_block H.out hm.mem) hu ht hfit h1, Result.andThen_ok, Sem.run_pure]
  have := hK _ _ h'
  first
    | exact this
    | (show K (a.put o.dst _) _; rw [e]; exact this)
theorem st_storeN (H : Aside0 (Own w0 W bs)) {ty : TypeId} {x y : Operand} (ho : o.op = .store ty x y := by rfl) (hw : Region.wanted o (yielded ops a.tmps) = true := by rfl) (hN : o.dst = none := by rfl) {g off : Nat} (hx : a.eval x = .pointer (some ⟨g, off, none⟩) := by rfl) {cs cs' : List Value} {t : Nat} {bs' : List (Nat × Array Value × Nat)} (hm : Upd bs g cs.toArray t cs'.toArray bs' := by with_reducible repeat (first | exact Upd.head | apply Upd.tail))
    {vs : List Value} (hy : a.eval y = .agg vs.toArray := by rfl) {n : Nat} (ht : (P.info? ty).map (·.size) = some n := by assumption) (hn : vs.length = n := by rfl) (hfit : off + vs.length ≤ cs.length := by exact Nat.le_of_ble_eq_true rfl) (h1 : ∀ q ∈ vs, q.oneCell' = true := by simp [Value.oneCell']) (hc : cs' = putAt cs off vs := by (simp only [putAt]; rfl))
    (h : ∀ w1 : World, Aside0 (Own w0 w1 bs') → wpList P ops Q rest a w1) : wpList P ops Q (o :: rest) a W :=
  st_store H ho hw hN hx hm hy (by simp [Value.cells]) (by rw [ht, hn]) (by simpa using hfit) h1 (by simp [hc]) h
theorem st_store1 (H : Aside0 (Own w0 W bs)) {ty : TypeId} {x y : Operand} (ho : o.op = .store ty x y := by rfl) (hw : Region.wanted o (yielded ops a.tmps) = true := by rfl) (hN : o.dst = none := by rfl) {g off : Nat} (hx : a.eval x = .pointer (some ⟨g, off, none⟩) := by rfl) {cs cs' : List Value} {t : Nat} {bs' : List (Nat × Array Value × Nat)} (hm : Upd bs g cs.toArray t cs'.toArray bs' := by with_reducible repeat (first | exact Upd.head | apply Upd.tail))
    {u : Value} (hy : a.eval y = u := by rfl) (hu : u.cells.toList = [u] := by rfl) (ht : (P.info? ty).map (·.size) = some 1 := by assumption) (hfit : off + 1 ≤ cs.length := by exact Nat.le_of_ble_eq_true rfl) (h1 : u.oneCell' = true := by simp [Value.oneCell']) (hc : cs' = putAt cs off [u] := by (simp only [putAt]; rfl))
    (h : ∀ w1 : World, Aside0 (Own w0 w1 bs') → wpList P ops Q rest a w1) : wpList P ops Q (o :: rest) a W :=
  st_store H ho hw hN hx hm hy hu ht (by simpa using hfit) (fun q hq => by simp at hq; subst hq; exact h1) (by simp [hc]) h
/-- A load of one cell. -/
theorem run_load1 {w : World} {g off : Nat} {ty : TypeId} {d : TypeDesc} {v : Value} (hc : w.cell? ⟨g, off, none⟩ = some v) (hu : P.underlying ty = some d) (hd : (match d with | .struct _ | .array _ _ => true | _ => false) = false) :
    (loadVar ty ⟨g, off, none⟩).run P w = .ok v w := by
  have hagg : (isAgg ty).run P w = .ok false w := by
    unfold isAgg
    rw [Sem.run_bind, run_underlying hu w]
    cases d <;> simp_all
  simp [loadVar, Sem.run_bind, hagg, hc, go_sem]
/-- A load of several cells. -/
theorem run_loadN {w : World} {g off n : Nat} {t ty : TypeId} {cs : Array Value} {d : TypeDesc} (hg : w.heap[g]? = some (.cells cs t (0, 0))) (hu : P.underlying ty = some d)
    (hd : (match d with | .struct _ | .array _ _ => true | _ => false) = true) (hi : (P.info? ty).map (·.size) = some n) {vs : List Value} (hv : (cs.toList.drop off).take n = vs) (hn : vs.length = n) :
    (loadVar ty ⟨g, off, none⟩).run P w = .ok (.agg vs.toArray) w := by
  have hl : (loadCells ⟨g, off, none⟩ vs.length).run P w = .ok vs.toArray w :=
    run_loadCells_list (P := P) w ⟨g, off, none⟩ vs (fun j v hv' => by
      have hadd : (⟨g, off, none⟩ : Addr).add j = ⟨g, off + j, none⟩ := by unfold Addr.add; split <;> simp_all
      rw [hadd, cell_of_row w g (off + j) cs t (0, 0) hg]
      rw [← hv, List.getElem?_take] at hv'
      split at hv'
      · rw [List.getElem?_drop] at hv'
        simpa using hv'
      · cases hv')
  cases hq : P.info? ty with
  | none => simp [hq] at hi
  | some i =>
    have hs : i.size = vs.length := by rw [hn]; simpa [hq] using hi
    have hagg : (isAgg ty).run P w = .ok true w := by
      unfold isAgg
      rw [Sem.run_bind, run_underlying hu w]
      cases d <;> simp_all
    simp [loadVar, Sem.run_bind, hagg, sizeOf, typeInfo, hq, hs, hl]
theorem st_load1 (H : Aside0 (Own w0 W bs)) {ty : TypeId} {x : Operand} (ho : o.op = .load ty x := by rfl) (hw : Region.wanted o (yielded ops a.tmps) = true := by rfl) {g off : Nat} (hx : a.eval x = .pointer (some ⟨g, off, none⟩) := by rfl) {cs : Array Value} {t : Nat} (hm : (g, cs, t) ∈ bs := by with_reducible repeat (first | exact List.mem_cons_self | apply List.mem_cons_of_mem))
    {d : TypeDesc} (hu : P.underlying ty = some d := by assumption) (hd : (match d with | .struct _ | .array _ _ => true | _ => false) = false := by rfl) {v : Value} (hv : cs[off]? = some v := by rfl) (h : wpList P ops Q rest (a.put o.dst v) W) : wpList P ops Q (o :: rest) a W := by
  refine eventW hw ?_ h
  unfold execOp
  simp only [ho, hx, Instr.loadAt, Instr.sureAddr, Sem.run_bind, Sem.run_pure, Result.andThen_ok, run_load1 ((blk_cell (own_block H.out hm) off).trans hv) hu hd]
theorem st_loadN (H : Aside0 (Own w0 W bs)) {ty : TypeId} {x : Operand} (ho : o.op = .load ty x := by rfl) (hw : Region.wanted o (yielded ops a.tmps) = true := by rfl) {g off : Nat} (hx : a.eval x = .pointer (some ⟨g, off, none⟩) := by rfl) {cs : Array Value} {t : Nat} (hm : (g, cs, t) ∈ bs := by with_reducible repeat (first | exact List.mem_cons_self | apply List.mem_cons_of_mem))
    {d : TypeDesc} (hu : P.underlying ty = some d := by assumption) (hd : (match d with | .struct _ | .array _ _ => true | _ => false) = true := by rfl) {n : Nat} (hi : (P.info? ty).map (·.size) = some n := by assumption) {vs : List Value} (hv : (cs.toList.drop off).take n = vs := by rfl) (hn : vs.length = n := by rfl) (h : wpList P ops Q rest (a.put o.dst (.agg vs.toArray)) W) : wpList P ops Q (o :: rest) a W := by
  refine eventW hw ?_ h
  unfold execOp
  simp only [ho, hx, Instr.loadAt, Instr.sureAddr, Sem.run_bind, Sem.run_pure, Result.andThen_ok, run_loadN (own_block H.out hm) hu hd hi hv hn]
end
section
variable {P : Program} {ops : Array Oper} {a : Act} {Q : Exit → Act → World → Prop} {w0 W : World} {bs : List (Nat × Array Value × Nat)} {md : Region.Mode} {ds : List Nat} {S : World → Prop}
/-- A region that draws its order begins. -/
theorem startO {id : Nat} (HO : Aside0 (Own w0 W bs)) (n : Nat) (ds : List Nat) (l : Array Bool) (hm : P.follows .mixedOrders = true) (hn : ops.size = n) (hl : Array.replicate n false = l)
    (h : ∀ w1, Aside0 (Own w0 w1 bs) → wpAnyLast P .any ops Q (fun w' => Own w0 w' bs) ds n l a w1) : (Code.region id ops true).wp P Q a W :=
  start_ l hm hn hl (own_drew HO.out) (fun hS => h _ ⟨hS⟩)
/-- An operation that needs no world. -/
theorem pureO {oi : Oper} {v : Value} {fuel : Nat} {l : Array Bool} {a' : Act} (i : Nat) (N : Option Tmp) (l' : Array Bool) (hc : anyB md ops l l' i = true) (hi : ops[i]? = some oi := by rfl) (hN : oi.dst = N := by rfl)
    (hy : Yields P ops oi v a := by first | exact Or.inl ⟨by rfl, by intro w'; go_simp; with_reducible rfl⟩ | exact Or.inl ⟨by rfl, by intro w'; go_simp⟩ | exact Or.inr ⟨by rfl, rfl⟩)
    (hQ : ∀ c a w, Q (.panic c) (a.put oi.dst v) w → Q (.panic c) a w := by exact fun _ _ _ h => h)
    (ha : a.put N v = a' := by (simp only [Act.put, List.setIfInBounds_toArray, List.set_cons_zero, List.set_cons_succ]; rfl))
    (h : wpAnyLast P md ops Q S ds fuel l' a' W) : wpAnyLast P md ops Q S ds (fuel + 1) l a W :=
  pure_ l' hi hN hc hQ hy ha h
theorem runL1 {o : Oper} (H : Own w0 W bs) {ty : TypeId} {x : Operand} (ho : o.op = .load ty x) {g off : Nat} (hx : a.eval x = .pointer (some ⟨g, off, none⟩)) {cs : Array Value} {t : Nat} (hm : (g, cs, t) ∈ bs)
    {d : TypeDesc} (hu : P.underlying ty = some d) (hd : (match d with | .struct _ | .array _ _ => true | _ => false) = false) {v : Value} (hv : cs[off]? = some v) : (execOp a.eval o).run P W = .ok (.value v) W := by
  unfold execOp
  simp only [ho, hx, Instr.loadAt, Instr.sureAddr, Sem.run_bind, Sem.run_pure, Result.andThen_ok, run_load1 ((blk_cell (own_block H hm) off).trans hv) hu hd]
theorem runLN {o : Oper} (H : Own w0 W bs) {ty : TypeId} {x : Operand} (ho : o.op = .load ty x) {g off : Nat} (hx : a.eval x = .pointer (some ⟨g, off, none⟩)) {cs : Array Value} {t : Nat} (hm : (g, cs, t) ∈ bs)
    {d : TypeDesc} (hu : P.underlying ty = some d) (hd : (match d with | .struct _ | .array _ _ => true | _ => false) = true) {n : Nat} (hi : (P.info? ty).map (·.size) = some n) {vs : List Value} (hv : (cs.toList.drop off).take n = vs) (hn : vs.length = n) : (execOp a.eval o).run P W = .ok (.value (.agg vs.toArray)) W := by
  unfold execOp
  simp only [ho, hx, Instr.loadAt, Instr.sureAddr, Sem.run_bind, Sem.run_pure, Result.andThen_ok, run_loadN (own_block H hm) hu hd hi hv hn]
/-- A load, taken first. -/
theorem loadO {oi : Oper} {v : Value} {fuel : Nat} {l : Array Bool} {a' : Act} {bs1 : List (Nat × Array Value × Nat)} (HO : Aside0 (Own w0 W bs1)) (i : Nat) (N : Option Tmp) (l' : Array Bool) (hc : takeB md ops ds l l' i = true) (hi : ops[i]? = some oi := by rfl) (hN : oi.dst = N := by rfl)
    (hy : YieldsIf P ops (fun w' => Own w0 w' bs) oi v a := by
      first
        | exact Or.inl ⟨by rfl, fun w' hS => runL1 hS rfl rfl (by with_reducible repeat (first | exact List.mem_cons_self | apply List.mem_cons_of_mem)) (by assumption) (by rfl) (by rfl)⟩
        | exact Or.inl ⟨by rfl, fun w' hS => runLN hS rfl rfl (by with_reducible repeat (first | exact List.mem_cons_self | apply List.mem_cons_of_mem)) (by assumption) (by rfl) (by assumption) (by rfl) (by rfl)⟩
        | exact Or.inr ⟨by rfl, rfl⟩)
    (hQ : ∀ c a w, Q (.panic c) (a.put oi.dst v) w → Q (.panic c) a w := by exact fun _ _ _ h => h)
    (ha : a.put N v = a' := by (simp only [Act.put, List.setIfInBounds_toArray, List.set_cons_zero, List.set_cons_succ]; rfl))
    (hsuf : Suf bs bs1 := by with_reducible repeat (first | exact Suf.refl | apply Suf.cons))
    (h : wpAnyLast P md ops Q (fun w' => Own w0 w' bs) ds fuel l' a' W) : wpAnyLast P md ops Q (fun w' => Own w0 w' bs) ds (fuel + 1) l a W :=
  take_ l' hi hN hc hQ hy (own_suf HO.out hsuf) ha h
/-- A call, that alone may come up. -/
theorem callO {oi : Oper} {fuel : Nat} {l : Array Bool} {f : FuncId} {fn : Func} {as : Array Operand} {ts : Array TypeId} {args : Array Value} {bs1 : List (Nat × Array Value × Nat)} (HO : Aside0 (Own w0 W bs1)) (i : Nat) (N : Option Tmp) (l' : Array Bool) (hf : P.funcs[f]? = some fn) (hc : readyB md ops l l' i = true)
    (hi : ops[i]? = some oi := by rfl) (hN : oi.dst = N := by rfl) (hd : i ∉ ds := by decide) (hname : (fn.name == "runtime.NumGoroutine") = false := by kernel_rfl) (hb : fn.body.isSome = true := by rfl)
    (hw : Region.wanted oi (yielded ops a.tmps) = true := by rfl) (hop : oi.op = .call { callee := .value (.func f), args := as, argTypes := ts } := by rfl)
    (hargs : as.map a.eval = args := by ((try simp only [List.map_toArray, List.map_cons, List.map_nil]); rfl))
    (hsuf : Suf bs bs1 := by with_reducible repeat (first | exact Suf.refl | apply Suf.cons))
    (h : Calls P f args W fun e w' => ∃ v, e = .returned v ∧ Below W.heap.size W w' ∧ ∀ a', a.put N v = a' → Aside0 (Own w0 w' bs1) → wpAnyLast P md ops Q (fun w' => Own w0 w' bs) ds fuel l' a' w') :
    wpAnyLast P md ops Q (fun w' => Own w0 w' bs) ds (fuel + 1) l a W := by
  refine one_ l' hi hN hc hd (fun K hK => ?_)
  refine goes_ hf hname hb args hw hN hop hargs ?_
  refine h.mono fun e w' hh => ?_
  obtain ⟨v, rfl, hb, hk⟩ := hh
  have HO2 := own_call HO.out hb
  exact ⟨v, rfl, hK.out _ _ (own_suf HO2 hsuf) (fun _ => hk _ rfl ⟨HO2⟩)⟩
/-- A variable is laid in memory, that alone may come up. -/
theorem makeO {oi : Oper} {fuel : Nat} {l : Array Bool} {t0 : TypeId} {cs : List Value} {bs1 : List (Nat × Array Value × Nat)} (HO : Aside0 (Own w0 W bs1)) (i : Nat) (N : Option Tmp) (l' : Array Bool) (hc : readyB md ops l l' i = true)
    (hi : ops[i]? = some oi := by rfl) (hN : oi.dst = N := by rfl) (hd : i ∉ ds := by decide) (hw : Region.wanted oi (yielded ops a.tmps) = true := by rfl) (ho : oi.op = .alloc t0 := by rfl) (hz : ZeroIs P t0 cs := by assumption)
    (hsuf : Suf bs bs1 := by with_reducible repeat (first | exact Suf.refl | apply Suf.cons))
    (h : ∀ (g : Nat) (w1 : World), Aside0 (Own w0 w1 ((g, cs.toArray, t0) :: bs1)) → ∀ a', a.put N (.pointer (some ⟨g, 0, none⟩)) = a' → wpAnyLast P md ops Q (fun w' => Own w0 w' bs) ds fuel l' a' w1) :
    wpAnyLast P md ops Q (fun w' => Own w0 w' bs) ds (fuel + 1) l a W := by
  refine one_ l' hi hN hc hd (fun K hK => ?_)
  rw [if_pos hw]
  obtain ⟨j, hj, h1⟩ := Option.map_eq_some_iff.1 hz
  obtain ⟨z, hz1, h2⟩ := Option.map_eq_some_iff.1 h1
  have e : z.cells = cs.toArray := by rw [← h2]
  have HO2 := own_alloc HO.out cs.toArray t0
  have hr : (execOp a.eval oi).run P W = .ok (.value (.pointer (some ⟨W.heap.size, 0, none⟩))) (W.alloc (.cells z.cells t0)) := by
    unfold execOp
    simp [ho, go_sem, Instr.alloc, newVar, newRow, zeroValue, typeInfo, hj, hz1]
  unfold Oper.wp
  rw [hr, e]
  show K (a.put oi.dst _) _
  rw [hN]
  exact hK.out _ _ (own_suf (own_suf HO2 (.cons .refl)) hsuf) (fun _ => h _ _ ⟨HO2⟩ _ rfl)
/-- A guarded operation that does not come up. -/
theorem offO {oi : Oper} {fuel : Nat} {l : Array Bool} {a' : Act} (i : Nat) (N : Option Tmp) (l' : Array Bool) (hc : anyB md ops l l' i = true) (hi : ops[i]? = some oi := by rfl) (hN : oi.dst = N := by rfl)
    (hy : Yields P ops oi undef a := by exact Or.inr ⟨by rfl, rfl⟩)
    (hQ : ∀ c a w, Q (.panic c) (a.put oi.dst undef) w → Q (.panic c) a w := by exact fun _ _ _ h => h)
    (ha : a.put N undef = a' := by (simp only [Act.put, List.setIfInBounds_toArray, List.set_cons_zero, List.set_cons_succ]; rfl))
    (h : wpAnyLast P md ops Q S ds fuel l' a' W) : wpAnyLast P md ops Q S ds (fuel + 1) l a W :=
  pure_ l' hi hN hc hQ hy ha h
/-- A store, behind all else. -/
theorem storeNO {oi : Oper} {fuel : Nat} {l : Array Bool} {ty : TypeId} {x y : Operand} {g off : Nat} {cs cs' : List Value} {t : Nat} {bs1 bs' : List (Nat × Array Value × Nat)} {vs : List Value} {n : Nat} (HO : Aside0 (Own w0 W bs1)) (i : Nat) (l' : Array Bool) (hc : readyB md ops l l' i = true)
    (hi : ops[i]? = some oi := by rfl) (hN : oi.dst = none := by rfl) (hd : i ∈ ds := by decide) (hw : Region.wanted oi (yielded ops a.tmps) = true := by rfl) (ho : oi.op = .store ty x y := by rfl)
    (hx : a.eval x = .pointer (some ⟨g, off, none⟩) := by rfl) (hm : Upd bs1 g cs.toArray t cs'.toArray bs' := by with_reducible repeat (first | exact Upd.head | apply Upd.tail))
    (hy : a.eval y = .agg vs.toArray := by rfl) (ht : (P.info? ty).map (·.size) = some n := by assumption) (hn : vs.length = n := by rfl) (hfit : off + vs.length ≤ cs.length := by exact Nat.le_of_ble_eq_true rfl)
    (h1 : ∀ q ∈ vs, q.oneCell' = true := by simp [Value.oneCell']) (hcs : cs' = putAt cs off vs := by (simp only [putAt]; rfl))
    (h : ∀ w1, Aside0 (Own w0 w1 bs') → wpAnyLast P md ops Q S ds fuel l' a w1) : wpAnyLast P md ops Q S ds (fuel + 1) l a W := by
  refine last_ l' hi hN hc hd (fun K hK => ?_)
  rw [if_pos hw]
  subst hcs
  have h' := h _ ⟨own_upd HO.out hm⟩
  have hr := run_storeOwn (P := P) (own_block HO.out hm.mem) (u := .agg vs.toArray) (off := off) (ty := ty) (vs := vs) (by simp [Value.cells]) (by rw [ht, hn]) (by simpa using hfit) h1
  unfold Oper.wp execOp
  simp only [ho, hx, hy, Sem.run_bind, hr, Result.andThen_ok, Sem.run_pure]
  have hk := hK.out _ _ (by simpa using h')
  have e : ∀ v, a.put oi.dst v = a := fun v => by rw [hN]; rfl
  show K (a.put oi.dst _) _
  rw [e]
  exact hk
/-- A store of one cell, behind all else. -/
theorem store1O {oi : Oper} {fuel : Nat} {l : Array Bool} {ty : TypeId} {x y : Operand} {g off : Nat} {cs cs' : List Value} {t : Nat} {bs1 bs' : List (Nat × Array Value × Nat)} {u : Value} (HO : Aside0 (Own w0 W bs1)) (i : Nat) (l' : Array Bool) (hc : readyB md ops l l' i = true)
    (hi : ops[i]? = some oi := by rfl) (hN : oi.dst = none := by rfl) (hd : i ∈ ds := by decide) (hw : Region.wanted oi (yielded ops a.tmps) = true := by rfl) (ho : oi.op = .store ty x y := by rfl)
    (hx : a.eval x = .pointer (some ⟨g, off, none⟩) := by rfl) (hm : Upd bs1 g cs.toArray t cs'.toArray bs' := by with_reducible repeat (first | exact Upd.head | apply Upd.tail))
    (hy : a.eval y = u := by rfl) (hu : u.cells.toList = [u] := by rfl) (ht : (P.info? ty).map (·.size) = some 1 := by assumption) (hfit : off + 1 ≤ cs.length := by exact Nat.le_of_ble_eq_true rfl)
    (h1 : u.oneCell' = true := by simp [Value.oneCell']) (hcs : cs' = putAt cs off [u] := by (simp only [putAt]; rfl))
    (h : ∀ w1, Aside0 (Own w0 w1 bs') → wpAnyLast P md ops Q S ds fuel l' a w1) : wpAnyLast P md ops Q S ds (fuel + 1) l a W := by
  refine last_ l' hi hN hc hd (fun K hK => ?_)
  rw [if_pos hw]
  subst hcs
  have h' := h _ ⟨own_upd HO.out hm⟩
  have hr := run_storeOwn (P := P) (own_block HO.out hm.mem) (u := u) (off := off) (ty := ty) (vs := [u]) hu ht (by simpa using hfit) (fun q hq => by simp at hq; subst hq; exact h1)
  unfold Oper.wp execOp
  simp only [ho, hx, hy, Sem.run_bind, hr, Result.andThen_ok, Sem.run_pure]
  have hk := hK.out _ _ (by simpa using h')
  have e : ∀ v, a.put oi.dst v = a := fun v => by rw [hN]; rfl
  show K (a.put oi.dst _) _
  rw [e]
  exact hk
end
end Go.Proofs.YthfpfogodggdmaaDoorW.Box
