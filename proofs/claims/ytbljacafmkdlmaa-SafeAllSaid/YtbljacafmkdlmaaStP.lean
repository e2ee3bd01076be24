/- Plain laws on stores: no program in sight. No condition. -/
import Derived.Test.YtbljacafmkdlmaaPlain
namespace Go.Proofs.Ytbljacafmkdlmaa

abbrev Wrt := Int × List UInt8

/-- What stands last at a sector. -/
def lastW (l : List Wrt) (at_ : Int) : Option (List UInt8) := l.foldl (fun o w => if w.1 = at_ then some w.2 else o) none
theorem lastW_nil (at_ : Int) : lastW [] at_ = none := rfl
theorem lastW_snoc (l : List Wrt) (w : Wrt) (at_ : Int) : lastW (l ++ [w]) at_ = if w.1 = at_ then some w.2 else lastW l at_ := by simp [lastW]
theorem lastW_mem {l : List Wrt} {at_ : Int} {x : List UInt8} (h : lastW l at_ = some x) : (at_, x) ∈ l := by
  induction l using snoc_ind with
  | h0 => cases h
  | h1 l w ih =>
    rw [lastW_snoc] at h
    split at h
    · rename_i he
      injection h with h
      subst h he
      simp
    · exact List.mem_append_left _ (ih h)
theorem lastW_none {l : List Wrt} {at_ : Int} (h : ∀ w ∈ l, w.1 ≠ at_) : lastW l at_ = none := by
  cases hl : lastW l at_ with
  | none => rfl
  | some x => exact absurd rfl (h _ (lastW_mem hl))

def z16 : List UInt8 := [0, 0, 0, 0, 0, 0, 0, 0, 0, 0, 0, 0, 0, 0, 0, 0]
/-- What a sector has. -/
def sect (l : List Wrt) (at_ : Int) : List UInt8 := (lastW l at_).getD z16

/-- How many of the first sectors were written. -/
def usedN (l : List Wrt) : Nat → Nat
  | 0 => 0
  | n + 1 => usedN l n + if (lastW l n).isSome then 1 else 0
theorem usedN_le (l : List Wrt) : ∀ n, usedN l n ≤ n
  | 0 => Nat.le_refl _
  | n + 1 => by
    have := usedN_le l n
    unfold usedN
    split <;> omega
theorem usedN_congr {l l' : List Wrt} : ∀ n : Nat, (∀ k : Nat, k < n → (lastW l k).isSome = (lastW l' k).isSome) → usedN l n = usedN l' n
  | 0, _ => rfl
  | n + 1, h => by
    unfold usedN
    rw [usedN_congr n (fun k hk => h k (by omega)), h n (by omega)]
theorem usedN_mono {l l' : List Wrt} : ∀ n : Nat, (∀ k : Nat, k < n → (lastW l k).isSome = true → (lastW l' k).isSome = true) → usedN l n ≤ usedN l' n
  | 0, _ => Nat.le_refl _
  | n + 1, h => by
    unfold usedN
    have h1 := usedN_mono n (fun k hk => h k (by omega))
    have h2 := h n (by omega)
    cases hl : (lastW l n).isSome
    · simp; omega
    · rw [h2 hl]
      simp
      omega
theorem usedN_snoc (l : List Wrt) (w : Wrt) : ∀ n : Nat, 0 ≤ w.1 → usedN (l ++ [w]) n = usedN l n + if w.1 < n ∧ (lastW l w.1).isSome = false then 1 else 0
  | 0, h => by simp [usedN]; omega
  | n + 1, h => by
    unfold usedN
    rw [usedN_snoc l w n h, lastW_snoc]
    by_cases hw : w.1 = n
    · rw [if_pos hw, hw]
      cases (lastW l n).isSome
      · simp
        omega
      · simp
    · rw [if_neg hw]
      have e : (w.1 < ((n + 1 : Nat) : Int) ∧ (lastW l w.1).isSome = false) ↔ (w.1 < (n : Int) ∧ (lastW l w.1).isSome = false) := by
        constructor
        · rintro ⟨h1, h2⟩
          exact ⟨by omega, h2⟩
        · rintro ⟨h1, h2⟩
          exact ⟨by omega, h2⟩
      simp only [e]
      omega

/-- What is written: so many sectors of bytes. -/
def chs (at_ : Int) (b : List UInt8) : Nat → List Wrt
  | 0 => []
  | k + 1 => chs at_ b k ++ [(at_ + k, (b.drop (16 * k)).take 16)]
theorem chs_length (at_ : Int) (b : List UInt8) : ∀ k, (chs at_ b k).length = k
  | 0 => rfl
  | k + 1 => by unfold chs; rw [List.length_append, chs_length at_ b k]; rfl
theorem chs_mem {at_ : Int} {b : List UInt8} {w : Wrt} : ∀ {k : Nat}, w ∈ chs at_ b k → ∃ j : Nat, j < k ∧ w = (at_ + j, (b.drop (16 * j)).take 16)
  | 0, h => by cases h
  | k + 1, h => by
    unfold chs at h
    rcases List.mem_append.1 h with h | h
    · obtain ⟨j, hj, e⟩ := chs_mem h
      exact ⟨j, by omega, e⟩
    · exact ⟨k, by omega, by simpa using h⟩
theorem lastW_chs (l : List Wrt) (at_ : Int) (b : List UInt8) (x : Int) : ∀ k : Nat, lastW (l ++ chs at_ b k) x = if at_ ≤ x ∧ x < at_ + k then some ((b.drop (16 * (x - at_).toNat)).take 16) else lastW l x
  | 0 => by simp [chs]; omega
  | k + 1 => by
    unfold chs
    rw [← List.append_assoc, lastW_snoc, lastW_chs l at_ b x k]
    by_cases h : at_ + (k : Int) = x
    · subst h
      rw [if_pos rfl, if_pos ⟨by omega, by omega⟩, show (at_ + (k : Int) - at_).toNat = k by omega]
    · simp only
      rw [if_neg h]
      by_cases h2 : at_ ≤ x ∧ x < at_ + (k : Int)
      · rw [if_pos h2, if_pos (by omega)]
      · rw [if_neg h2, if_neg (by omega)]

/-- A store: how many sectors, what there is room for, all writes, how many of them are safe. -/
structure St where
  n : Int
  room : Int
  l : List Wrt
  k : Nat
def St.used (s : St) : Nat := usedN s.l s.n.toNat
def St.loose (s : St) : List Wrt := s.l.drop s.k
structure St.OK (s : St) : Prop where
  n0 : 0 ≤ s.n
  n1 : s.n ≤ 4096
  r0 : 0 ≤ s.room
  k : s.k ≤ s.l.length
  w : ∀ w ∈ s.l, 0 ≤ w.1 ∧ w.1 < s.n ∧ w.2.length = 16

def insideB (n at_ long : Int) : Bool := decide (0 ≤ at_) && decide (long ≤ n) && decide (at_ ≤ n - long)
theorem insideB_of {n at_ long : Int} (h : insideB n at_ long = true) : 0 ≤ at_ ∧ at_ + long ≤ n := by
  unfold insideB at h
  simp only [Bool.and_eq_true, decide_eq_true_eq] at h
  omega
/-- As the document asks it. -/
theorem insideB_ref {n at_ long : Int} (hl : 0 ≤ long) : insideB n at_ long = (decide (0 ≤ at_) && decide (at_ ≤ n) && decide (long ≤ n - at_)) := by
  unfold insideB
  rw [Bool.eq_iff_iff]
  simp only [Bool.and_eq_true, decide_eq_true_eq]
  omega

/-- Write. -/
def doW (s : St) (at_ : Int) (b : List UInt8) : St × Int :=
  if b.length = 0 ∨ b.length % 16 ≠ 0 then (s, 1)
  else if insideB s.n at_ ((b.length / 16 : Nat) : Int) = false then (s, 31)
  else if s.room < ((usedN (s.l ++ chs at_ b (b.length / 16)) s.n.toNat : Nat) : Int) ∧ s.used < usedN (s.l ++ chs at_ b (b.length / 16)) s.n.toNat then (s, 30)
  else ({ s with l := s.l ++ chs at_ b (b.length / 16) }, 0)

/-- So many sectors, one behind the other. -/
def cat (l : List Wrt) (at_ : Int) : Nat → List UInt8
  | 0 => []
  | k + 1 => cat l at_ k ++ sect l (at_ + k)
/-- Read. -/
def rdS (s : St) (at_ long : Int) : List UInt8 × Int :=
  if long < 0 then ([], 1) else if insideB s.n at_ long = false then ([], 31) else (cat s.l at_ long.toNat, 0)

/-- Those of the first writes whose number is in a row. -/
def kp {α : Type} (keep : List Int) (l : List α) : Nat → List α
  | 0 => []
  | j + 1 => kp keep l j ++ if keep.contains (j : Int) then l[j]?.toList else []
theorem kp_mem {α : Type} {keep : List Int} {l : List α} {x : α} : ∀ {j : Nat}, x ∈ kp keep l j → x ∈ l
  | 0, h => by cases h
  | j + 1, h => by
    unfold kp at h
    rcases List.mem_append.1 h with h | h
    · exact kp_mem h
    · split at h
      · cases hj : l[j]? with
        | none => rw [hj] at h; cases h
        | some y =>
          rw [hj] at h
          simp at h
          subst h
          exact List.mem_of_getElem? hj
      · cases h
theorem kp_length {α : Type} (keep : List Int) (l : List α) : ∀ j : Nat, (kp keep l j).length ≤ j
  | 0 => Nat.le_refl _
  | j + 1 => by
    unfold kp
    rw [List.length_append]
    have h1 := kp_length keep l j
    have h2 : (if keep.contains (j : Int) then l[j]?.toList else []).length ≤ 1 := by
      split
      · cases l[j]? <;> simp
      · simp
    omega
theorem kp_step {α : Type} (keep : List Int) (l : List α) {j : Nat} (h : j < l.length) : kp keep l (j + 1) = kp keep l j ++ if keep.contains (j : Int) then [l[j]] else [] := by
  show kp keep l j ++ (if keep.contains (j : Int) then l[j]?.toList else []) = _
  rw [List.getElem?_eq_getElem h]
  rfl
def crashL (s : St) (keep : List Int) : List Wrt := s.l.take s.k ++ kp keep (s.l.drop s.k) (s.l.length - s.k)
/-- Crash. -/
def doC (s : St) (keep : List Int) : St := { s with l := crashL s keep, k := (crashL s keep).length }
/-- Flush. -/
def doF (s : St) : St := { s with k := s.l.length }
/-- Resize. -/
def resL (s : St) (n : Int) : List Wrt := s.l.filter fun w => decide (w.1 < n)
def doZ (s : St) (n : Int) : St × Int := if n < 0 ∨ 4096 < n then (s, 1) else (⟨n, s.room, resL s n, (resL s n).length⟩, 0)
/-- Room. -/
def doR (s : St) (n : Int) : St := { s with room := if n < 0 then 0 else n }

theorem St.OK.write {s : St} (h : s.OK) (at_ : Int) (b : List UInt8) : (doW s at_ b).1.OK := by
  unfold doW
  split
  · exact h
  split
  · exact h
  split
  · exact h
  · rename_i h1 h2 h3
    refine ⟨h.n0, h.n1, h.r0, ?_, fun w hw => ?_⟩
    · simp only [List.length_append]
      have := h.k
      omega
    · rcases List.mem_append.1 hw with hw | hw
      · exact h.w w hw
      · obtain ⟨j, hj, rfl⟩ := chs_mem hw
        have h4 := insideB_of (by simpa using h2 : insideB s.n at_ ((b.length / 16 : Nat) : Int) = true)
        refine ⟨by simp only; omega, by simp only; omega, ?_⟩
        simp only [List.length_take, List.length_drop]
        omega
theorem St.OK.crash {s : St} (h : s.OK) (keep : List Int) : (doC s keep).OK := by
  refine ⟨h.n0, h.n1, h.r0, Nat.le_refl _, fun w hw => h.w w ?_⟩
  rcases List.mem_append.1 hw with hw | hw
  · exact List.mem_of_mem_take hw
  · exact List.mem_of_mem_drop (kp_mem hw)
theorem St.OK.flush {s : St} (h : s.OK) : (doF s).OK := ⟨h.n0, h.n1, h.r0, Nat.le_refl _, h.w⟩
theorem St.OK.resize {s : St} (h : s.OK) (n : Int) : (doZ s n).1.OK := by
  unfold doZ
  split
  · exact h
  · rename_i hn
    refine ⟨by simp only; omega, by simp only; omega, h.r0, Nat.le_refl _, fun w hw => ?_⟩
    obtain ⟨h1, h2⟩ := List.mem_filter.1 hw
    have h3 := h.w w h1
    have h4 : w.1 < n := by simpa using h2
    exact ⟨h3.1, h4, h3.2.2⟩
theorem St.OK.roomed {s : St} (h : s.OK) (n : Int) : (doR s n).OK := by
  refine ⟨h.n0, h.n1, ?_, h.k, h.w⟩
  unfold doR
  simp only
  split <;> omega

/-- A call: what the store is then, what is told, the error. -/
structure Opn where
  kind : Int
  at_ : Int
  n : Int
  b : List UInt8
  keep : List Int
def doO (s : St) (o : Opn) : St × List UInt8 × Int :=
  if o.kind = 0 then ((doW s o.at_ o.b).1, [], (doW s o.at_ o.b).2)
  else if o.kind = 1 then (s, (rdS s o.at_ o.n).1, (rdS s o.at_ o.n).2)
  else if o.kind = 2 then (doF s, [], 0)
  else if o.kind = 3 then (doC s o.keep, [], 0)
  else if o.kind = 4 then ((doZ s o.n).1, [], (doZ s o.n).2)
  else if o.kind = 5 then (doR s o.n, [], 0)
  else (s, [], 0)
theorem St.OK.op {s : St} (h : s.OK) (o : Opn) : (doO s o).1.OK := by
  unfold doO
  split
  · exact h.write _ _
  split
  · exact h
  split
  · exact h.flush
  split
  · exact h.crash _
  split
  · exact h.resize _
  split
  · exact h.roomed _
  · exact h
end Go.Proofs.Ytbljacafmkdlmaa
