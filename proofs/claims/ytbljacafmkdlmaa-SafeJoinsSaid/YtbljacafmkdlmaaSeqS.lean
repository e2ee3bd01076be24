/- A region that draws its order, walked in one fixed order, with calls in it that turn memory: a predicate S of worlds that holds behind each step; a load may be taken where its value is the same in every world that meets S. Over any program. Condition: the order passes a closed check. -/
import Derived.Test.YtbljacafmkdlmaaSeq
import Derived.Test.YtbljacafmkdlmaaBlk
import Derived.Laws.Rows
namespace Go.Proofs.Ytbljacafmkdlmaa
open Go.RowKit

/-- The order: number i taken first (its kind); a step that is held (its value is the same wherever S holds); alone; one of two. -/
inductive PlanS where
  | fin
  | take (i : Nat) (k : Kd) (p : PlanS)
  | hold (i : Nat) (p : PlanS)
  | alone (i : Nat) (p : PlanS)
  | fork (i : Nat) (p : PlanS) (j : Nat) (q : PlanS)

def preS (ops : Array Oper) : PlanS → List Oper
  | .take i k p => (match ops[i]? with
    | some o => ghosts o k ++ o :: preS ops p
    | none => [])
  | .alone i _ => opAt ops i
  | _ => []

def PlanS.long : PlanS → Nat
  | .fin => 0
  | .take _ _ p => p.long + 1
  | .hold _ p => p.long + 1
  | .alone _ p => p.long + 1
  | .fork _ p _ q => max p.long q.long + 1

def planSOK (P : Program) (ops : Array Oper) : PlanS → Array Bool → Bool
  | .fin, listed => (Region.ready .any ops listed) == []
  | .take i k p, listed => (match ops[i]? with
    | some o => k.fits false P o && Region.free .any ops listed i && (Region.ready .any ops listed).contains i
    | none => false) && planSOK P ops p (listed.setIfInBounds i true)
  | .hold i p, listed => (match ops[i]? with
    | some _ => Region.free .any ops listed i && (Region.ready .any ops listed).contains i
    | none => false) && planSOK P ops p (listed.setIfInBounds i true)
  | .alone i p, listed => (Region.ready .any ops listed) == [i] && planSOK P ops p (listed.setIfInBounds i true)
  | .fork i p j q, listed => (Region.ready .any ops listed) == [i, j] && planSOK P ops p (listed.setIfInBounds i true) && planSOK P ops q (listed.setIfInBounds j true)

/-- At a held step: where it is wanted, its value is the same in every world that meets S. -/
def HoldP (S : World → Prop) (P : Program) (ops : Array Oper) (o : Oper) (K : Act → World → Prop) (a : Act) (w : World) : Prop :=
  (Region.wanted o (yielded ops a.tmps) = true ∧ ∃ v, (∀ u, S u → (execOp a.eval o).run P u = .ok (.value v) u) ∧ K (a.put o.dst v) w) ∨ (Region.wanted o (yielded ops a.tmps) = false ∧ K (a.put o.dst undef) w)

def nxtS (S : World → Prop) (P : Program) (ops : Array Oper) (Q : Exit → Act → World → Prop) : PlanS → Act → World → Prop
  | .fin, a, w => Q .normal a w
  | .take _ _ p, a, w => nxtS S P ops Q p a w
  | .hold i p, a, w => (match ops[i]? with
    | some o => HoldP S P ops o (fun a1 w1 => wpList P ops (Ends fun _ a' w' => nxtS S P ops Q p a' w') (preS ops p) a1 w1) a w
    | none => False)
  | .alone _ p, a, w => S w ∧ wpList P ops (Ends fun _ a' w' => nxtS S P ops Q p a' w') (preS ops p) a w
  | .fork i p j q, a, w =>
    wpList P ops (Ends fun _ a1 w1 => S w1 ∧ wpList P ops (Ends fun _ a' w' => nxtS S P ops Q p a' w') (preS ops p) a1 w1) (opAt ops i) a w ∧
    wpList P ops (Ends fun _ a1 w1 => S w1 ∧ wpList P ops (Ends fun _ a' w' => nxtS S P ops Q q a' w') (preS ops q) a1 w1) (opAt ops j) a w

section
variable {S : World → Prop} {P : Program} {ops : Array Oper} {Q : Exit → Act → World → Prop}

theorem nextS {K : Act → World → Prop} {a : Act} {w : World} (hs : S w) (h : K a w) : Ends (fun _ a' w' => S w' ∧ K a' w') .normal a w := ⟨hs, h⟩
theorem next_hold {o : Oper} {K : Act → World → Prop} {a : Act} {w : World} (v : Value) (hw : Region.wanted o (yielded ops a.tmps) = true) (hv : ∀ u, S u → (execOp a.eval o).run P u = .ok (.value v) u) (h : K (a.put o.dst v) w) :
    Ends (fun _ a' w' => HoldP S P ops o K a' w') .normal a w := .inl ⟨hw, v, hv, h⟩
theorem next_pass {o : Oper} {K : Act → World → Prop} {a : Act} {w : World} (hw : Region.wanted o (yielded ops a.tmps) = false) (h : K (a.put o.dst undef) w) :
    Ends (fun _ a' w' => HoldP S P ops o K a' w') .normal a w := .inr ⟨hw, h⟩

theorem hold_row {o : Oper} {a : Act} (ty : TypeId) (x : Operand) (ho : o.op = .load ty x) (g : Nat) (hx : a.eval x = .pointer (some ⟨g, 0, none⟩)) (t : TypeId) (cs : Array Value) (d : TypeDesc)
    (hb : ∀ u, S u → Blk u g t cs) (hu : P.underlying ty = some d) (hd : (match d with | .struct _ | .array _ _ => true | _ => false) = true) (hi : (P.info? ty).map (·.size) = some cs.size) :
    ∀ u, S u → (execOp a.eval o).run P u = .ok (.value (.agg cs)) u := by
  intro u hS
  unfold execOp
  simp only [ho, hx, Instr.loadAt, Instr.sureAddr, Sem.run_bind, Sem.run_pure, Result.andThen_ok, run_loadVar_row u g t ty cs (0, 0) d (hb u hS) hu hd hi]
theorem hold_cell {o : Oper} {a : Act} (ty : TypeId) (x : Operand) (ho : o.op = .load ty x) (p : Addr) (hx : a.eval x = .pointer (some p)) (v : Value) (d : TypeDesc)
    (hb : ∀ u, S u → u.cell? p = some v) (hd : (match d with | .struct _ | .array _ _ => true | _ => false) = false) (hu : P.underlying ty = some d) :
    ∀ u, S u → (execOp a.eval o).run P u = .ok (.value v) u := by
  intro u hS
  have hagg : (isAgg ty).run P u = .ok false u := by
    unfold isAgg
    rw [Sem.run_bind, run_underlying hu u]
    cases d <;> simp_all
  unfold execOp
  simp only [ho, hx, Instr.loadAt, Instr.sureAddr, Sem.run_bind, Sem.run_pure, Result.andThen_ok]
  simp [loadVar, Sem.run_bind, hagg, run_load, hb u hS]

theorem planS_sound (hs : Region.noSelect ops = true) : ∀ (p : PlanS) (listed : Array Bool) (fuel : Nat) (a : Act) (w : World), p.long ≤ fuel → planSOK P ops p listed = true → S w →
    wpList P ops (Ends fun _ a' w' => nxtS S P ops Q p a' w') (preS ops p) a w → wpAnyH P .any ops (Ends Q) S fuel listed a w := by
  have one : ∀ (i : Nat) (p : PlanS) (listed : Array Bool) (fuel : Nat) (a : Act) (w : World),
      (∀ a' w', S w' → wpList P ops (Ends fun _ a2 w2 => nxtS S P ops Q p a2 w2) (preS ops p) a' w' → wpAnyH P .any ops (Ends Q) S fuel (listed.setIfInBounds i true) a' w') → S w →
      wpList P ops (Ends fun _ a1 w1 => S w1 ∧ wpList P ops (Ends fun _ a' w' => nxtS S P ops Q p a' w') (preS ops p) a1 w1) (opAt ops i) a w →
      wpOp P ops (Ends Q) i (fun a' w' => S w' ∧ wpAnyH P .any ops (Ends Q) S fuel (listed.setIfInBounds i true) a' w') a w := by
    intro i p listed fuel a w ih hS h
    have hgo : ∀ a' w', S w' ∧ wpList P ops (Ends fun _ a2 w2 => nxtS S P ops Q p a2 w2) (preS ops p) a' w' → S w' ∧ wpAnyH P .any ops (Ends Q) S fuel (listed.setIfInBounds i true) a' w' := fun a' w' hh => ⟨hh.1, ih a' w' hh.1 hh.2⟩
    unfold wpOp
    unfold opAt at h
    cases ho : ops[i]? with
    | none =>
      rw [ho] at h
      exact hgo a w h
    | some o =>
      rw [ho] at h
      simp only [] at h ⊢
      have h2 := step_of h
      by_cases hw : Region.wanted o (yielded ops a.tmps) = true
      · rw [if_pos hw] at h2 ⊢
        exact .inl (wp_ends (Oper.wp_mono (fun a' w' h' => hgo a' w' h') h2))
      · rw [if_neg hw] at h2 ⊢
        exact hgo _ w h2
  intro p
  induction p with
  | fin => exact fun listed fuel a w _ hc _ h => wpAnyH_done (by simpa [planSOK] using hc) h fuel
  | take i k p ih =>
    intro listed fuel a w hf hc hS h
    cases fuel with
    | zero => simp [PlanS.long] at hf
    | succ fuel =>
      have hfr : p.long ≤ fuel := by simpa [PlanS.long] using hf
      unfold planSOK at hc
      rw [Bool.and_eq_true] at hc
      obtain ⟨hc, hcr⟩ := hc
      unfold preS at h
      cases ho : ops[i]? with
      | none => rw [ho] at hc; cases hc
      | some o =>
        rw [ho] at hc h
        simp only [Bool.and_eq_true] at hc
        obtain ⟨⟨hk, hfree⟩, hrd⟩ := hc
        obtain ⟨v, hy, h2⟩ := take_step (rd := false) (Q := fun _ a' w' => nxtS S P ops Q p a' w') hk h
        have hy2 : YieldsIf P ops S o v a := hy.imp (fun ⟨h1, h3⟩ => ⟨h1, fun u _ => h3 u (fun e => by cases e)⟩) id
        exact wpAnyH_take ho hs hfree hrd (fun _ _ _ h => h) hy2 hS (ih _ fuel _ w hfr hcr hS h2)
  | hold i p ih =>
    intro listed fuel a w hf hc hS h
    cases fuel with
    | zero => simp [PlanS.long] at hf
    | succ fuel =>
      have hfr : p.long ≤ fuel := by simpa [PlanS.long] using hf
      unfold planSOK at hc
      rw [Bool.and_eq_true] at hc
      obtain ⟨hc, hcr⟩ := hc
      have h' : nxtS S P ops Q (.hold i p) a w := h
      unfold nxtS at h'
      cases ho : ops[i]? with
      | none => rw [ho] at hc; cases hc
      | some o =>
        rw [ho] at hc h'
        simp only [Bool.and_eq_true] at hc
        obtain ⟨hfree, hrd⟩ := hc
        rcases h' with ⟨hw, v, hv, h2⟩ | ⟨hw, h2⟩
        · exact wpAnyH_take ho hs hfree hrd (fun _ _ _ h => h) (.inl ⟨hw, hv⟩) hS (ih _ fuel _ w hfr hcr hS h2)
        · exact wpAnyH_take ho hs hfree hrd (fun _ _ _ h => h) (.inr ⟨hw, rfl⟩) hS (ih _ fuel _ w hfr hcr hS h2)
  | alone i p ih =>
    intro listed fuel a w hf hc hS h
    cases fuel with
    | zero => simp [PlanS.long] at hf
    | succ fuel =>
      have hfr : p.long ≤ fuel := by simpa [PlanS.long] using hf
      unfold planSOK at hc
      simp only [Bool.and_eq_true, beq_iff_eq] at hc
      refine wpAnyH_all hc.1 (by simp) fun j hj => ?_
      rw [List.mem_singleton] at hj
      subst hj
      exact one _ p listed fuel a w (fun a' w' hS' h' => ih _ fuel a' w' hfr hc.2 hS' h') hS h
  | fork i p j q ihp ihq =>
    intro listed fuel a w hf hc hS h
    cases fuel with
    | zero => simp [PlanS.long] at hf
    | succ fuel =>
      have hfr : max p.long q.long ≤ fuel := by simpa [PlanS.long] using hf
      unfold planSOK at hc
      simp only [Bool.and_eq_true, beq_iff_eq] at hc
      have h' : _ ∧ _ := h
      refine wpAnyH_all hc.1.1 (by simp) fun k hk => ?_
      rcases List.mem_cons.1 hk with rfl | hk
      · exact one _ p listed fuel a w (fun a' w' hS' h' => ihp _ fuel a' w' (by omega) hc.1.2 hS' h') hS h'.1
      · rw [List.mem_singleton] at hk
        subst hk
        exact one _ q listed fuel a w (fun a' w' hS' h' => ihq _ fuel a' w' (by omega) hc.2 hS' h') hS h'.2
end

/-- A region that draws its order, walked by this plan, under S. -/
theorem wp_region_seqS (S : World → Prop) {P : Program} {id : Nat} {l : List Oper} {Q : Exit → Act → World → Prop} {a : Act} {w : World} (p : PlanS) (hm : P.follows .mixedOrders = true) (hs : Region.noSelect l.toArray = true)
    (hc : (decide (p.long ≤ l.length) && planSOK P l.toArray p (Array.replicate l.length false)) = true) (hS : S w.drew)
    (h : wpList P l.toArray (Ends fun _ a' w' => nxtS S P l.toArray Q p a' w') (preS l.toArray p) a w.drew) : (Code.region id l.toArray true).wp P Q a w := by
  rw [Bool.and_eq_true, decide_eq_true_eq] at hc
  refine Code.wp_mono Ends.imp (wp_region_held (S := S) hm ?_)
  have h1 := planS_sound hs p (Array.replicate l.length false) l.length a w.drew hc.1 hc.2 hS h
  simpa using h1
end Go.Proofs.Ytbljacafmkdlmaa
