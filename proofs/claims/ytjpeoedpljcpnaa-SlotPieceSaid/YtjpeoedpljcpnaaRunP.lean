/- Plain laws on a row's extents: no program in sight. No condition. -/
import Derived.Test.YtjpeoedpljcpnaaSlP
namespace Go.Proofs.Ytjpeoedpljcpnaa

structure Ex where
  f : Int
  n : Int
  k : Int
def goesF (a b : Sl) : Bool := if a.k = 1 ∧ b.k = 1 then (a.o == b.o) && decide (a.h < b.h) && decide (b.h - 1 = a.h) else decide (a.k = b.k)
def lastUp : List Ex → List Ex
  | [] => []
  | [x] => [⟨x.f, x.n + 1, x.k⟩]
  | x :: y :: r => x :: lastUp (y :: r)
theorem lastUp_snoc (l : List Ex) (x : Ex) : lastUp (l ++ [x]) = l ++ [⟨x.f, x.n + 1, x.k⟩] := by
  induction l with
  | nil => rfl
  | cons y l ih =>
    cases l with
    | nil => rfl
    | cons z l =>
      show y :: lastUp (z :: l ++ [x]) = _
      rw [ih]
      rfl
/-- The extents of the first so many slots. -/
def rT (l : List Sl) : Nat → List Ex
  | 0 => []
  | k + 1 => if 0 < k ∧ goesF (l.getD (k - 1) ⟨0, 0, false⟩) (l.getD k ⟨0, 0, false⟩) = true then lastUp (rT l k) else rT l k ++ [⟨(k : Int), 1, (l.getD k ⟨0, 0, false⟩).k⟩]
theorem rT_succ (l : List Sl) (k : Nat) : rT l (k + 1) = if 0 < k ∧ goesF (l.getD (k - 1) ⟨0, 0, false⟩) (l.getD k ⟨0, 0, false⟩) = true then lastUp (rT l k) else rT l k ++ [⟨(k : Int), 1, (l.getD k ⟨0, 0, false⟩).k⟩] := rfl
theorem rT_take (l : List Sl) (n : Nat) : ∀ k, k ≤ n → rT (l.take n) k = rT l k
  | 0, _ => rfl
  | k + 1, h => by
    have e1 : (l.take n).getD k ⟨0, 0, false⟩ = l.getD k ⟨0, 0, false⟩ := by simp [List.getD, show k < n by omega]
    have e2 : (l.take n).getD (k - 1) ⟨0, 0, false⟩ = l.getD (k - 1) ⟨0, 0, false⟩ := by simp [List.getD, show k - 1 < n by omega]
    unfold rT
    rw [e1, e2, rT_take l n k (by omega)]
theorem rT_some (l : List Sl) : ∀ k, 0 < k → ∃ m x, rT l k = m ++ [x]
  | 0, h => by omega
  | k + 1, _ => by
    unfold rT
    split
    · rename_i hc
      obtain ⟨m, x, hm⟩ := rT_some l k hc.1
      rw [hm, lastUp_snoc]
      exact ⟨_, _, rfl⟩
    · exact ⟨_, _, rfl⟩
theorem rT_small (l : List Sl) : ∀ k, ∀ x ∈ rT l k, x.n ≤ k ∧ 1 ≤ x.n
  | 0, x, hx => by cases hx
  | k + 1, x, hx => by
    unfold rT at hx
    split at hx
    · rename_i hc
      obtain ⟨m, y, hm⟩ := rT_some l k hc.1
      have ih := rT_small l k
      rw [hm] at ih hx
      rw [lastUp_snoc] at hx
      rcases List.mem_append.1 hx with hx | hx
      · have := ih x (by simp [hx])
        omega
      · rw [List.mem_singleton] at hx
        subst hx
        have := ih y (by simp)
        simp only
        omega
    · rcases List.mem_append.1 hx with hx | hx
      · have := rT_small l k x hx
        omega
      · rw [List.mem_singleton] at hx
        subst hx
        simp only
        omega
theorem rT_len (l : List Sl) : ∀ k, (rT l k).length ≤ k
  | 0 => Nat.le_refl _
  | k + 1 => by
    have ih := rT_len l k
    unfold rT
    split
    · rename_i hc
      obtain ⟨m, x, hm⟩ := rT_some l k hc.1
      rw [hm] at ih ⊢
      rw [lastUp_snoc, List.length_append, List.length_singleton]
      rw [List.length_append, List.length_singleton] at ih
      omega
    · rw [List.length_append, List.length_singleton]
      omega

/-- A row of extents is another one's, cut. -/
structure Pre (p q : List Ex) : Prop where
  long : p.length ≤ q.length
  same : ∀ i (h : i < p.length), q[i].f = p[i].f ∧ q[i].k = p[i].k ∧ (i + 1 < p.length → q[i].n = p[i].n) ∧ p[i].n ≤ q[i].n
theorem Pre.refl (p : List Ex) : Pre p p := ⟨Nat.le_refl _, fun _ _ => ⟨rfl, rfl, fun _ => rfl, Int.le_refl _⟩⟩
theorem Pre.trans {p q r : List Ex} (h : Pre p q) (k : Pre q r) : Pre p r :=
  ⟨Nat.le_trans h.long k.long, fun i hi => by
    have h1 := h.long
    obtain ⟨a1, a2, a3, a4⟩ := h.same i hi
    obtain ⟨b1, b2, b3, b4⟩ := k.same i (by omega)
    exact ⟨b1.trans a1, b2.trans a2, fun h2 => (b3 (by omega)).trans (a3 h2), Int.le_trans a4 b4⟩⟩
theorem Pre.snoc (p : List Ex) (x : Ex) : Pre p (p ++ [x]) :=
  ⟨by simp, fun i h => by
    rw [List.getElem_append_left h]
    exact ⟨rfl, rfl, fun _ => rfl, Int.le_refl _⟩⟩
theorem Pre.up (m : List Ex) (x : Ex) : Pre (m ++ [x]) (m ++ [⟨x.f, x.n + 1, x.k⟩]) :=
  ⟨by simp, fun i h => by
    by_cases hi : i < m.length
    · rw [List.getElem_append_left hi, List.getElem_append_left hi]
      exact ⟨rfl, rfl, fun _ => rfl, Int.le_refl _⟩
    · have h2 : i = m.length := by
        simp at h
        omega
      subst h2
      rw [List.getElem_append_right (Nat.le_refl _), List.getElem_append_right (Nat.le_refl _)]
      simp only [Nat.sub_self, List.getElem_cons_zero]
      exact ⟨trivial, trivial, fun h3 => by simp at h3, by omega⟩⟩
theorem rT_pre (l : List Sl) (n : Nat) : ∀ m, Pre (rT l n) (rT l (n + m))
  | 0 => Pre.refl _
  | m + 1 => by
    refine (rT_pre l n m).trans ?_
    show Pre (rT l (n + m)) (rT l (n + m + 1))
    rw [rT_succ]
    split
    · rename_i hc
      obtain ⟨p, x, hp⟩ := rT_some l (n + m) hc.1
      rw [hp, lastUp_snoc]
      exact Pre.up p x
    · exact Pre.snoc _ _
end Go.Proofs.Ytjpeoedpljcpnaa
