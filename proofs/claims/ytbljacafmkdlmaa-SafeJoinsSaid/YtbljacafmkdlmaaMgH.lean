/- Several texts in one: StP, SfP, StD. -/
import Derived.Test.YtbljacafmkdlmaaPlain
import Derived.Test.YtbljacafmkdlmaaStr
import Derived.Maps.Ext
import Derived.Maps.OwnSet
import Derived.Lib.SlMapFilter
import Derived.Maps.Keyed
/- Plain laws on stores: no program in sight. No condition. -/
namespace Go.Proofs.Ytbljacafmkdlmaa

abbrev Wrt := Int × List UInt8

/-- What stands last at a sector. -/
def lastW (l : List Wrt) (at_ : Int) : Option (List UInt8) := l.foldl (fun o w => if w.1 = at_ then some w.2 else o) none
theorem lastW_nil (at_ : Int) : lastW [] at_ = none := rfl
theorem lastW_snoc (l : List Wrt) (w : Wrt) (at_ : Int) : lastW (l ++ [w]) at_ = if w.1 = at_ then some w.2 else lastW l at_ := by simp [lastW]
theorem lastW_mem {l : List Wrt} {at_ : Int} {x : List UInt8} (h : lastW l at_ = some x) : (at_, x) ∈ l := by
  induction l using snoc_ind with
  | h0 => cases h
  | h1 l w ih =>
    rw [lastW_snoc] at h
    split at h
    · rename_i he
      injection h with h
      subst h he
      simp
    · exact List.mem_append_left _ (ih h)
theorem lastW_none {l : List Wrt} {at_ : Int} (h : ∀ w ∈ l, w.1 ≠ at_) : lastW l at_ = none := by
  cases hl : lastW l at_ with
  | none => rfl
  | some x => exact absurd rfl (h _ (lastW_mem hl))

def z16 : List UInt8 := [0, 0, 0, 0, 0, 0, 0, 0, 0, 0, 0, 0, 0, 0, 0, 0]
/-- What a sector has. -/
def sect (l : List Wrt) (at_ : Int) : List UInt8 := (lastW l at_).getD z16

/-- How many of the first sectors were written. -/
def usedN (l : List Wrt) : Nat → Nat
  | 0 => 0
  | n + 1 => usedN l n + if (lastW l n).isSome then 1 else 0
theorem usedN_le (l : List Wrt) : ∀ n, usedN l n ≤ n
  | 0 => Nat.le_refl _
  | n + 1 => by
    have := usedN_le l n
    unfold usedN
    split <;> omega
theorem usedN_congr {l l' : List Wrt} : ∀ n : Nat, (∀ k : Nat, k < n → (lastW l k).isSome = (lastW l' k).isSome) → usedN l n = usedN l' n
  | 0, _ => rfl
  | n + 1, h => by
    unfold usedN
    rw [usedN_congr n (fun k hk => h k (by omega)), h n (by omega)]
theorem usedN_mono {l l' : List Wrt} : ∀ n : Nat, (∀ k : Nat, k < n → (lastW l k).isSome = true → (lastW l' k).isSome = true) → usedN l n ≤ usedN l' n
  | 0, _ => Nat.le_refl _
  | n + 1, h => by
    unfold usedN
    have h1 := usedN_mono n (fun k hk => h k (by omega))
    have h2 := h n (by omega)
    cases hl : (lastW l n).isSome
    · simp; omega
    · rw [h2 hl]
      simp
      omega
theorem usedN_snoc (l : List Wrt) (w : Wrt) : ∀ n : Nat, 0 ≤ w.1 → usedN (l ++ [w]) n = usedN l n + if w.1 < n ∧ (lastW l w.1).isSome = false then 1 else 0
  | 0, h => by simp [usedN]; omega
  | n + 1, h => by
    unfold usedN
    rw [usedN_snoc l w n h, lastW_snoc]
    by_cases hw : w.1 = n
    · rw [if_pos hw, hw]
      cases (lastW l n).isSome
      · simp
        omega
      · simp
    · rw [if_neg hw]
      have e : (w.1 < ((n + 1 : Nat) : Int) ∧ (lastW l w.1).isSome = false) ↔ (w.1 < (n : Int) ∧ (lastW l w.1).isSome = false) := by
        constructor
        · rintro ⟨h1, h2⟩
          exact ⟨by omega, h2⟩
        · rintro ⟨h1, h2⟩
          exact ⟨by omega, h2⟩
      simp only [e]
      omega

/-- What is written: so many sectors of bytes. -/
def chs (at_ : Int) (b : List UInt8) : Nat → List Wrt
  | 0 => []
  | k + 1 => chs at_ b k ++ [(at_ + k, (b.drop (16 * k)).take 16)]
theorem chs_length (at_ : Int) (b : List UInt8) : ∀ k, (chs at_ b k).length = k
  | 0 => rfl
  | k + 1 => by unfold chs; rw [List.length_append, chs_length at_ b k]; rfl
theorem chs_mem {at_ : Int} {b : List UInt8} {w : Wrt} : ∀ {k : Nat}, w ∈ chs at_ b k → ∃ j : Nat, j < k ∧ w = (at_ + j, (b.drop (16 * j)).take 16)
  | 0, h => by cases h
  | k + 1, h => by
    unfold chs at h
    rcases List.mem_append.1 h with h | h
    · obtain ⟨j, hj, e⟩ := chs_mem h
      exact ⟨j, by omega, e⟩
    · exact ⟨k, by omega, by simpa using h⟩
theorem lastW_chs (l : List Wrt) (at_ : Int) (b : List UInt8) (x : Int) : ∀ k : Nat, lastW (l ++ chs at_ b k) x = if at_ ≤ x ∧ x < at_ + k then some ((b.drop (16 * (x - at_).toNat)).take 16) else lastW l x
  | 0 => by simp [chs]; omega
  | k + 1 => by
    unfold chs
    rw [← List.append_assoc, lastW_snoc, lastW_chs l at_ b x k]
    by_cases h : at_ + (k : Int) = x
    · subst h
      rw [if_pos rfl, if_pos ⟨by omega, by omega⟩, show (at_ + (k : Int) - at_).toNat = k by omega]
    · simp only
      rw [if_neg h]
      by_cases h2 : at_ ≤ x ∧ x < at_ + (k : Int)
      · rw [if_pos h2, if_pos (by omega)]
      · rw [if_neg h2, if_neg (by omega)]

/-- A store: how many sectors, what there is room for, all writes, how many of them are safe. -/
structure St where
  n : Int
  room : Int
  l : List Wrt
  k : Nat
def St.used (s : St) : Nat := usedN s.l s.n.toNat
def St.loose (s : St) : List Wrt := s.l.drop s.k
structure St.OK (s : St) : Prop where
  n0 : 0 ≤ s.n
  n1 : s.n ≤ 4096
  r0 : 0 ≤ s.room
  k : s.k ≤ s.l.length
  w : ∀ w ∈ s.l, 0 ≤ w.1 ∧ w.1 < s.n ∧ w.2.length = 16

def insideB (n at_ long : Int) : Bool := decide (0 ≤ at_) && decide (long ≤ n) && decide (at_ ≤ n - long)
theorem insideB_of {n at_ long : Int} (h : insideB n at_ long = true) : 0 ≤ at_ ∧ at_ + long ≤ n := by
  unfold insideB at h
  simp only [Bool.and_eq_true, decide_eq_true_eq] at h
  omega
/-- As the document asks it. -/
theorem insideB_ref {n at_ long : Int} (hl : 0 ≤ long) : insideB n at_ long = (decide (0 ≤ at_) && decide (at_ ≤ n) && decide (long ≤ n - at_)) := by
  unfold insideB
  rw [Bool.eq_iff_iff]
  simp only [Bool.and_eq_true, decide_eq_true_eq]
  omega

/-- Write. -/
def doW (s : St) (at_ : Int) (b : List UInt8) : St × Int :=
  if b.length = 0 ∨ b.length % 16 ≠ 0 then (s, 1)
  else if insideB s.n at_ ((b.length / 16 : Nat) : Int) = false then (s, 31)
  else if s.room < ((usedN (s.l ++ chs at_ b (b.length / 16)) s.n.toNat : Nat) : Int) ∧ s.used < usedN (s.l ++ chs at_ b (b.length / 16)) s.n.toNat then (s, 30)
  else ({ s with l := s.l ++ chs at_ b (b.length / 16) }, 0)

/-- So many sectors, one behind the other. -/
def cat (l : List Wrt) (at_ : Int) : Nat → List UInt8
  | 0 => []
  | k + 1 => cat l at_ k ++ sect l (at_ + k)
/-- Read. -/
def rdS (s : St) (at_ long : Int) : List UInt8 × Int :=
  if long < 0 then ([], 1) else if insideB s.n at_ long = false then ([], 31) else (cat s.l at_ long.toNat, 0)

/-- Those of the first writes whose number is in a row. -/
def kp {α : Type} (keep : List Int) (l : List α) : Nat → List α
  | 0 => []
  | j + 1 => kp keep l j ++ if keep.contains (j : Int) then l[j]?.toList else []
theorem kp_mem {α : Type} {keep : List Int} {l : List α} {x : α} : ∀ {j : Nat}, x ∈ kp keep l j → x ∈ l
  | 0, h => by cases h
  | j + 1, h => by
    unfold kp at h
    rcases List.mem_append.1 h with h | h
    · exact kp_mem h
    · split at h
      · cases hj : l[j]? with
        | none => rw [hj] at h; cases h
        | some y =>
          rw [hj] at h
          simp at h
          subst h
          exact List.mem_of_getElem? hj
      · cases h
theorem kp_length {α : Type} (keep : List Int) (l : List α) : ∀ j : Nat, (kp keep l j).length ≤ j
  | 0 => Nat.le_refl _
  | j + 1 => by
    unfold kp
    rw [List.length_append]
    have h1 := kp_length keep l j
    have h2 : (if keep.contains (j : Int) then l[j]?.toList else []).length ≤ 1 := by
      split
      · cases l[j]? <;> simp
      · simp
    omega
theorem kp_step {α : Type} (keep : List Int) (l : List α) {j : Nat} (h : j < l.length) : kp keep l (j + 1) = kp keep l j ++ if keep.contains (j : Int) then [l[j]] else [] := by
  show kp keep l j ++ (if keep.contains (j : Int) then l[j]?.toList else []) = _
  rw [List.getElem?_eq_getElem h]
  rfl
def crashL (s : St) (keep : List Int) : List Wrt := s.l.take s.k ++ kp keep (s.l.drop s.k) (s.l.length - s.k)
/-- Crash. -/
def doC (s : St) (keep : List Int) : St := { s with l := crashL s keep, k := (crashL s keep).length }
/-- Flush. -/
def doF (s : St) : St := { s with k := s.l.length }
/-- Resize. -/
def resL (s : St) (n : Int) : List Wrt := s.l.filter fun w => decide (w.1 < n)
def doZ (s : St) (n : Int) : St × Int := if n < 0 ∨ 4096 < n then (s, 1) else (⟨n, s.room, resL s n, (resL s n).length⟩, 0)
/-- Room. -/
def doR (s : St) (n : Int) : St := { s with room := if n < 0 then 0 else n }

theorem St.OK.write {s : St} (h : s.OK) (at_ : Int) (b : List UInt8) : (doW s at_ b).1.OK := by
  unfold doW
  split
  · exact h
  split
  · exact h
  split
  · exact h
  · rename_i h1 h2 h3
    refine ⟨h.n0, h.n1, h.r0, ?_, fun w hw => ?_⟩
    · simp only [List.length_append]
      have := h.k
      omega
    · rcases List.mem_append.1 hw with hw | hw
      · exact h.w w hw
      · obtain ⟨j, hj, rfl⟩ := chs_mem hw
        have h4 := insideB_of (by simpa using h2 : insideB s.n at_ ((b.length / 16 : Nat) : Int) = true)
        refine ⟨by simp only; omega, by simp only; omega, ?_⟩
        simp only [List.length_take, List.length_drop]
        omega
theorem St.OK.crash {s : St} (h : s.OK) (keep : List Int) : (doC s keep).OK := by
  refine ⟨h.n0, h.n1, h.r0, Nat.le_refl _, fun w hw => h.w w ?_⟩
  rcases List.mem_append.1 hw with hw | hw
  · exact List.mem_of_mem_take hw
  · exact List.mem_of_mem_drop (kp_mem hw)
theorem St.OK.flush {s : St} (h : s.OK) : (doF s).OK := ⟨h.n0, h.n1, h.r0, Nat.le_refl _, h.w⟩
theorem St.OK.resize {s : St} (h : s.OK) (n : Int) : (doZ s n).1.OK := by
  unfold doZ
  split
  · exact h
  · rename_i hn
    refine ⟨by simp only; omega, by simp only; omega, h.r0, Nat.le_refl _, fun w hw => ?_⟩
    obtain ⟨h1, h2⟩ := List.mem_filter.1 hw
    have h3 := h.w w h1
    have h4 : w.1 < n := by simpa using h2
    exact ⟨h3.1, h4, h3.2.2⟩
theorem St.OK.roomed {s : St} (h : s.OK) (n : Int) : (doR s n).OK := by
  refine ⟨h.n0, h.n1, ?_, h.k, h.w⟩
  unfold doR
  simp only
  split <;> omega

/-- A call: what the store is then, what is told, the error. -/
structure Opn where
  kind : Int
  at_ : Int
  n : Int
  b : List UInt8
  keep : List Int
def doO (s : St) (o : Opn) : St × List UInt8 × Int :=
  if o.kind = 0 then ((doW s o.at_ o.b).1, [], (doW s o.at_ o.b).2)
  else if o.kind = 1 then (s, (rdS s o.at_ o.n).1, (rdS s o.at_ o.n).2)
  else if o.kind = 2 then (doF s, [], 0)
  else if o.kind = 3 then (doC s o.keep, [], 0)
  else if o.kind = 4 then ((doZ s o.n).1, [], (doZ s o.n).2)
  else if o.kind = 5 then (doR s o.n, [], 0)
  else (s, [], 0)
theorem St.OK.op {s : St} (h : s.OK) (o : Opn) : (doO s o).1.OK := by
  unfold doO
  split
  · exact h.write _ _
  split
  · exact h
  split
  · exact h.flush
  split
  · exact h.crash _
  split
  · exact h.resize _
  split
  · exact h.roomed _
  · exact h
end Go.Proofs.Ytbljacafmkdlmaa

/- What is saved in a store, as data: plain laws. No program in sight. Conditions: where a bound is named. -/
namespace Go.Proofs.Ytbljacafmkdlmaa

inductive SOp where
  | flush : SOp
  | write : Int → List UInt8 → SOp
def doS (s : St) : SOp → St × Int
  | .flush => (doF s, 0)
  | .write a b => doW s a b
theorem doS_ok {s : St} (h : s.OK) (o : SOp) : (doS s o).1.OK := by
  cases o with
  | flush => exact h.flush
  | write a b => exact h.write a b

def areaN (n : Int) : Nat := (n - 2).toNat / 2
def markB (s : St) (k : Nat) : List UInt8 := (rdS s (k : Int) 1).1
def bodyB (s : St) (k : Nat) : List UInt8 := (rdS s ((2 + k * areaN s.n : Nat) : Int) (areaN s.n : Int)).1
def u4 (x : List UInt8) (i : Nat) : Nat := un ((x.drop (4 * i)).take 4)
/-- What is told of a copy's bytes: its mark, opened. -/
def copOf (n : Int) (body x : List UInt8) : List UInt8 × Nat :=
  if u4 x 0 < 1 ∨ 1073741824 < u4 x 0 ∨ 16 * areaN n < u4 x 1 then ([], 0)
  else if adler (body.take (u4 x 1)) ≠ u4 x 2 then ([], 0)
  else (body.take (u4 x 1), u4 x 0)
/-- A copy: what is saved, and its generation; 0: it is not good. -/
def cop (s : St) (k : Nat) : List UInt8 × Nat :=
  match opened (markB s k) with
  | none => ([], 0)
  | some x => copOf s.n (bodyB s k) x
theorem cop_zero {s : St} {k : Nat} (h : (cop s k).2 = 0) : cop s k = ([], 0) := by
  revert h
  unfold cop
  cases opened (markB s k) with
  | none => intro _; rfl
  | some x =>
    simp only
    unfold copOf
    split
    · intro _; rfl
    split
    · intro _; rfl
    · intro h
      simp only at h
      omega
theorem cop_le (s : St) (k : Nat) : (cop s k).2 ≤ 1073741824 := by
  unfold cop
  cases opened (markB s k) with
  | none => exact Nat.zero_le _
  | some x =>
    simp only
    unfold copOf
    split
    · exact Nat.zero_le _
    split
    · exact Nat.zero_le _
    · simp only; omega

/-- The newest copy's number, what it has, its generation. -/
def newestP (s : St) : Int × List UInt8 × Nat :=
  if (cop s 0).2 < (cop s 1).2 then (1, cop s 1) else if 0 < (cop s 0).2 then (0, cop s 0) else (-1, [], 0)
def kOf (s : St) : Nat := if (newestP s).1 = 0 then 1 else 0
def loadP (s : St) : List UInt8 × Nat × Int := if (newestP s).1 < 0 then ([], 0, 130) else ((newestP s).2.1, (newestP s).2.2, 0)
def pad16 (x : List UInt8) : List UInt8 := (x ++ List.replicate 16 0).take 16
theorem pad16_length (x : List UInt8) : (pad16 x).length = 16 := by
  unfold pad16
  rw [List.length_take, List.length_append, List.length_replicate]
  omega
def dataOps (a : Int) (b : List UInt8) : Nat → List SOp
  | 0 => []
  | j + 1 => dataOps a b j ++ [.write (a + j) (pad16 (b.drop (16 * j)))]
theorem dataOps_length (a : Int) (b : List UInt8) : ∀ j, (dataOps a b j).length = j
  | 0 => rfl
  | j + 1 => by unfold dataOps; rw [List.length_append, dataOps_length a b j]; rfl
def markX (g : Nat) (b : List UInt8) : List UInt8 := be 4 g ++ be 4 b.length ++ be 4 (adler b)
theorem markX_length (g : Nat) (b : List UInt8) : (markX g b).length = 12 := by
  unfold markX
  rw [List.length_append, List.length_append, be_length, be_length, be_length]
def nch (b : List UInt8) : Nat := (b.length + 15) / 16
def opsOf (n : Int) (k g : Nat) (b : List UInt8) : List SOp :=
  dataOps ((2 + k * areaN n : Nat) : Int) b (nch b) ++ [.flush, .write (k : Int) (sealed (markX g b)), .flush]
def beginP (s : St) (b : List UInt8) : List SOp × Int :=
  if 16 * areaN s.n < b.length then ([], 1) else if 1073741824 ≤ (newestP s).2.2 then ([], 131) else (opsOf s.n (kOf s) ((newestP s).2.2 + 1) b, 0)

/-- All calls, up to the first that fails. -/
def exec : List SOp → St → St × Int
  | [], s => (s, 0)
  | o :: r, s => if (doS s o).2 = 0 then exec r (doS s o).1 else ((doS s o).1, (doS s o).2)
theorem exec_append (a b : List SOp) (s : St) : exec (a ++ b) s = if (exec a s).2 = 0 then exec b (exec a s).1 else exec a s := by
  induction a generalizing s with
  | nil => rw [List.nil_append]; exact (if_pos rfl).symm
  | cons o a ih =>
    rw [List.cons_append]
    show (if (doS s o).2 = 0 then exec (a ++ b) (doS s o).1 else ((doS s o).1, (doS s o).2)) = _
    by_cases h : (doS s o).2 = 0
    · have e : exec (o :: a) s = exec a (doS s o).1 := if_pos h
      rw [if_pos h, ih, e]
    · have e : exec (o :: a) s = ((doS s o).1, (doS s o).2) := if_neg h
      rw [if_neg h, e]
      simp only
      rw [if_neg h]
theorem exec_ok {s : St} (h : s.OK) (l : List SOp) : (exec l s).1.OK := by
  induction l generalizing s with
  | nil => exact h
  | cons o l ih =>
    unfold exec
    split
    · exact ih (doS_ok h o)
    · exact doS_ok h o

/-- A saver: the store, the calls that are left, the last error. One step. -/
def stepV (t : St × List SOp × Int) : St × List SOp × Int :=
  match t.2.1 with
  | [] => t
  | o :: r => if (doS t.1 o).2 = 0 then ((doS t.1 o).1, r, 0) else ((doS t.1 o).1, [], (doS t.1 o).2)
def stepsV : Nat → St × List SOp × Int → St × List SOp × Int
  | 0, t => t
  | j + 1, t => stepV (stepsV j t)
theorem stepsV_nil (s : St) (e : Int) : ∀ j, stepsV j (s, [], e) = (s, [], e)
  | 0 => rfl
  | j + 1 => by unfold stepsV; rw [stepsV_nil s e j]; rfl
theorem stepsV_front (t : St × List SOp × Int) : ∀ j, stepsV (j + 1) t = stepsV j (stepV t)
  | 0 => rfl
  | j + 1 => by
    show stepV (stepsV (j + 1) t) = stepV (stepsV j (stepV t))
    rw [stepsV_front t j]
theorem stepsV_all (l : List SOp) (s : St) : stepsV l.length (s, l, 0) = ((exec l s).1, [], (exec l s).2) := by
  induction l generalizing s with
  | nil => rfl
  | cons o l ih =>
    rw [List.length_cons, stepsV_front]
    show stepsV l.length (if (doS s o).2 = 0 then ((doS s o).1, l, 0) else ((doS s o).1, [], (doS s o).2)) = ((if (doS s o).2 = 0 then exec l (doS s o).1 else ((doS s o).1, (doS s o).2)).1, [], (if (doS s o).2 = 0 then exec l (doS s o).1 else ((doS s o).1, (doS s o).2)).2)
    by_cases h : (doS s o).2 = 0
    · rw [if_pos h, if_pos h]; exact ih _
    · rw [if_neg h, if_neg h]; exact stepsV_nil _ _ _
theorem stepsV_left (l : List SOp) (s : St) : ∀ j, (stepsV j (s, l, 0)).2.1.length ≤ l.length - j
  | 0 => Nat.le_refl _
  | j + 1 => by
    have ih := stepsV_left l s j
    show (stepV (stepsV j (s, l, 0))).2.1.length ≤ _
    obtain ⟨t, ht⟩ : ∃ t, t = stepsV j (s, l, 0) := ⟨_, rfl⟩
    rw [← ht] at ih ⊢
    obtain ⟨s', l', e'⟩ := t
    cases l' with
    | nil => exact Nat.zero_le _
    | cons o r =>
      unfold stepV
      simp only at ih ⊢
      rw [List.length_cons] at ih
      split
      · simp only; omega
      · exact Nat.zero_le _

/-! ## a write of one sector -/
theorem doW16 {s : St} {a : Int} {b : List UInt8} (hb : b.length = 16) (ha : 0 ≤ a ∧ a < s.n) :
    doW s a b = if s.room < ((usedN (s.l ++ [(a, b)]) s.n.toNat : Nat) : Int) ∧ s.used < usedN (s.l ++ [(a, b)]) s.n.toNat then (s, 30) else ({ s with l := s.l ++ [(a, b)] }, 0) := by
  have h1 : b.length / 16 = 1 := by omega
  have h2 : chs a b 1 = [(a, b)] := by
    show [] ++ [(a + ((0 : Nat) : Int), (b.drop (16 * 0)).take 16)] = _
    rw [List.nil_append, Nat.mul_zero, List.drop_zero, List.take_of_length_le (by omega), show a + ((0 : Nat) : Int) = a by omega]
  have h3 : insideB s.n a ((1 : Nat) : Int) = true := by
    unfold insideB
    simp only [Bool.and_eq_true, decide_eq_true_eq]
    omega
  unfold doW
  rw [if_neg (by omega), h1, h3, if_neg (by simp), h2]
/-- What one write of a sector turns. -/
theorem write16 {s : St} (hs : s.OK) {a : Int} {b : List UInt8} (hb : b.length = 16) (ha : 0 ≤ a ∧ a < s.n) :
    (doW s a b).1.n = s.n ∧ (doW s a b).1.room = s.room ∧ (∀ x, x ≠ a → sect (doW s a b).1.l x = sect s.l x) ∧ ((doW s a b).2 = 0 ∨ (doW s a b).2 = 30) ∧ (s.n ≤ s.room → (doW s a b).2 = 0) ∧ ((doW s a b).2 = 0 → sect (doW s a b).1.l a = b) ∧ (¬ (doW s a b).2 = 0 → (doW s a b).1 = s) := by
  rw [doW16 hb ha]
  split
  · rename_i h
    refine ⟨rfl, rfl, fun _ _ => rfl, .inr rfl, fun hr => ?_, fun h0 => by simp at h0, fun _ => rfl⟩
    have h1 := usedN_le (s.l ++ [(a, b)]) s.n.toNat
    have h2 := hs.n0
    omega
  · refine ⟨rfl, rfl, fun x hx => ?_, .inl rfl, fun _ => rfl, fun _ => ?_, fun h0 => absurd rfl h0⟩
    · unfold sect
      simp only
      rw [lastW_snoc, if_neg (fun e => hx e.symm)]
    · unfold sect
      simp only
      rw [lastW_snoc, if_pos rfl]
      rfl

/-- What is written of the bytes. -/
theorem exec_data {s : St} (hs : s.OK) (a : Int) (b : List UInt8) (h0 : 0 ≤ a) : ∀ j : Nat, a + j ≤ s.n →
    (exec (dataOps a b j) s).1.n = s.n ∧ (exec (dataOps a b j) s).1.room = s.room ∧ (∀ x, x < a ∨ a + j ≤ x → sect (exec (dataOps a b j) s).1.l x = sect s.l x) ∧ ((exec (dataOps a b j) s).2 = 0 ∨ (exec (dataOps a b j) s).2 = 30) ∧
      (s.n ≤ s.room → (exec (dataOps a b j) s).2 = 0) ∧ ((exec (dataOps a b j) s).2 = 0 → ∀ i : Nat, i < j → sect (exec (dataOps a b j) s).1.l (a + i) = pad16 (b.drop (16 * i)))
  | 0, _ => ⟨rfl, rfl, fun _ _ => rfl, .inl rfl, fun _ => rfl, fun _ i hi => by omega⟩
  | j + 1, hj => by
    obtain ⟨h1, h2, h3, h4, h5, h6⟩ := exec_data hs a b h0 j (by omega)
    have hok := exec_ok hs (dataOps a b j)
    have e : exec (dataOps a b (j + 1)) s = if (exec (dataOps a b j) s).2 = 0 then exec [.write (a + j) (pad16 (b.drop (16 * j)))] (exec (dataOps a b j) s).1 else exec (dataOps a b j) s := exec_append _ _ _
    rw [e]
    obtain ⟨⟨s1, e1⟩, hr⟩ : ∃ r, r = exec (dataOps a b j) s := ⟨_, rfl⟩
    rw [← hr] at h1 h2 h3 h4 h5 h6 hok ⊢
    simp only at h1 h2 h3 h4 h5 h6 hok ⊢
    by_cases he : e1 = 0
    · rw [if_pos he]
      obtain ⟨k1, k2, k3, k4, k5, k6, k7⟩ := write16 hok (pad16_length (b.drop (16 * j))) (a := a + j) ⟨by omega, by omega⟩
      have e2 : exec [.write (a + j) (pad16 (b.drop (16 * j)))] s1 = doW s1 (a + j) (pad16 (b.drop (16 * j))) := by
        show (if (doW s1 (a + j) (pad16 (b.drop (16 * j)))).2 = 0 then ((doW s1 (a + j) (pad16 (b.drop (16 * j)))).1, (0 : Int)) else _) = _
        split
        · rename_i h; exact Prod.ext rfl h.symm
        · rfl
      rw [e2]
      refine ⟨k1.trans h1, k2.trans h2, fun x hx => ?_, k4, fun hr => k5 (by rw [h1, h2]; exact hr), fun hz i hi => ?_⟩
      · rw [k3 x (by omega), h3 x (by omega)]
      · by_cases hij : i = j
        · subst hij; exact k6 hz
        · rw [k3 _ (by omega)]
          exact h6 he i (by omega)
    · rw [if_neg he]
      exact ⟨h1, h2, fun x hx => h3 x (by omega), h4, h5, fun hz => absurd hz he⟩

/-! ## what is read -/
theorem sect_len' {l : List Wrt} (h : ∀ x ∈ l, x.2.length = 16) (a : Int) : (sect l a).length = 16 := by
  unfold sect
  cases hx : lastW l a with
  | none => rfl
  | some y => exact h _ (lastW_mem hx)
theorem cat_add' (l : List Wrt) (a : Int) (k : Nat) : ∀ m : Nat, cat l a (k + m) = cat l a k ++ cat l (a + k) m
  | 0 => by show _ = _ ++ []; rw [List.append_nil]; rfl
  | m + 1 => by
    show cat l a (k + m) ++ sect l (a + ((k + m : Nat) : Int)) = cat l a k ++ (cat l (a + k) m ++ sect l (a + k + m))
    rw [cat_add' l a k m, List.append_assoc, show a + ((k + m : Nat) : Int) = a + k + m by omega]
theorem cat_congr' {l l' : List Wrt} {a : Int} : ∀ {k : Nat}, (∀ j : Nat, j < k → sect l (a + j) = sect l' (a + j)) → cat l a k = cat l' a k
  | 0, _ => rfl
  | k + 1, h => by
    show cat l a k ++ _ = cat l' a k ++ _
    rw [cat_congr' (fun j hj => h j (by omega)), h k (by omega)]
theorem cat_len' {l : List Wrt} (h : ∀ x ∈ l, x.2.length = 16) (a : Int) : ∀ k : Nat, (cat l a k).length = 16 * k
  | 0 => rfl
  | k + 1 => by
    show (cat l a k ++ _).length = _
    rw [List.length_append, cat_len' h a k, sect_len' h]
    omega
/-- Whole sectors of bytes. -/
theorem cat_whole {l : List Wrt} {a : Int} {b : List UInt8} {m : Nat} (h : ∀ i : Nat, i < m → sect l (a + i) = pad16 (b.drop (16 * i))) : ∀ j : Nat, j ≤ m → 16 * j ≤ b.length → cat l a j = b.take (16 * j)
  | 0, _, _ => rfl
  | j + 1, hj, hb => by
    show cat l a j ++ sect l (a + j) = _
    rw [cat_whole h j (by omega) (by omega), h j (by omega)]
    have e : pad16 (b.drop (16 * j)) = (b.drop (16 * j)).take 16 := by
      unfold pad16
      rw [List.take_append_of_le_length (by rw [List.length_drop]; omega)]
    rw [e, Nat.mul_succ, List.take_add]
theorem cat_bytes {l : List Wrt} (h16 : ∀ x ∈ l, x.2.length = 16) {a : Int} {b : List UInt8} (h : ∀ i : Nat, i < nch b → sect l (a + i) = pad16 (b.drop (16 * i))) {M : Nat} (hM : nch b ≤ M) : (cat l a M).take b.length = b := by
  have hq : 16 * (b.length / 16) ≤ b.length := by omega
  have hn : b.length / 16 ≤ nch b := by unfold nch; omega
  have h1 := cat_whole h (b.length / 16) hn hq
  by_cases hr : b.length % 16 = 0
  · have e : 16 * (b.length / 16) = b.length := by omega
    rw [show M = b.length / 16 + (M - b.length / 16) by omega, cat_add', List.take_append_of_le_length (by rw [cat_len' h16]; omega), h1, e, List.take_take, Nat.min_self, List.take_of_length_le (Nat.le_refl _)]
  · have hn2 : nch b = b.length / 16 + 1 := by unfold nch; omega
    have e2 : cat l a (b.length / 16 + 1) = b.take (16 * (b.length / 16)) ++ pad16 (b.drop (16 * (b.length / 16))) := by
      show cat l a (b.length / 16) ++ sect l (a + ((b.length / 16 : Nat) : Int)) = _
      rw [h1, h _ (by omega)]
    rw [show M = (b.length / 16 + 1) + (M - (b.length / 16 + 1)) by omega, cat_add', List.take_append_of_le_length (by rw [cat_len' h16]; omega), e2]
    have hl : (b.take (16 * (b.length / 16))).length = 16 * (b.length / 16) := by rw [List.length_take]; omega
    rw [List.take_append, hl, List.take_take, Nat.min_eq_right hq]
    unfold pad16
    rw [List.take_take, Nat.min_eq_left (by omega), List.take_append_of_le_length (by rw [List.length_drop]; omega), List.take_of_length_le (l := b.drop (16 * (b.length / 16))) (by rw [List.length_drop]; exact Nat.le_refl _), List.take_append_drop]

theorem markB_in {s : St} {k : Nat} (h : (k : Int) < s.n) : markB s k = sect s.l k := by
  have hi : insideB s.n (k : Int) 1 = true := by
    unfold insideB
    simp only [Bool.and_eq_true, decide_eq_true_eq]
    omega
  unfold markB rdS
  rw [if_neg (by omega), hi, if_neg (by simp)]
  show cat s.l k 1 = _
  show [] ++ sect s.l ((k : Int) + ((0 : Nat) : Int)) = _
  rw [List.nil_append, show (k : Int) + ((0 : Nat) : Int) = k by omega]
theorem bodyB_in {s : St} {k : Nat} (hk : k < 2) (h2 : 2 ≤ s.n) : bodyB s k = cat s.l ((2 + k * areaN s.n : Nat) : Int) (areaN s.n) := by
  have hi : insideB s.n ((2 + k * areaN s.n : Nat) : Int) (areaN s.n : Int) = true := by
    unfold insideB
    simp only [Bool.and_eq_true, decide_eq_true_eq]
    have hA : 2 * areaN s.n ≤ (s.n - 2).toNat := by unfold areaN; omega
    obtain rfl | rfl : k = 0 ∨ k = 1 := by omega
    · omega
    · omega
  unfold bodyB rdS
  rw [if_neg (by omega), hi, if_neg (by simp)]
  rfl
theorem cop_congr {s s' : St} {k : Nat} (hk : k < 2) (h2 : 2 ≤ s.n) (hn : s'.n = s.n) (hm : sect s'.l (k : Int) = sect s.l k) (hb : ∀ x : Int, ((2 + k * areaN s.n : Nat) : Int) ≤ x → x < ((2 + k * areaN s.n : Nat) : Int) + areaN s.n → sect s'.l x = sect s.l x) : cop s' k = cop s k := by
  have e1 : markB s' k = markB s k := by rw [markB_in (by omega), markB_in (by omega), hm]
  have e2 : bodyB s' k = bodyB s k := by
    rw [bodyB_in hk (by omega), bodyB_in hk h2, hn]
    exact cat_congr' fun j hj => hb _ (by omega) (by omega)
  unfold cop
  rw [e1, e2, hn]

theorem un_part (a b c : Nat) (ha : a < 4294967296) (hb : b < 4294967296) (hc : c < 4294967296) : u4 (be 4 a ++ be 4 b ++ be 4 c) 0 = a ∧ u4 (be 4 a ++ be 4 b ++ be 4 c) 1 = b ∧ u4 (be 4 a ++ be 4 b ++ be 4 c) 2 = c := by
  have la := be_length 4 a
  have lb := be_length 4 b
  have lc := be_length 4 c
  refine ⟨?_, ?_, ?_⟩
  · unfold u4
    rw [Nat.mul_zero, List.drop_zero, List.append_assoc, List.take_left' la, un_be 4 a (by omega)]
  · unfold u4
    rw [Nat.mul_one, List.append_assoc, List.drop_left' la, List.take_left' lb, un_be 4 b (by omega)]
  · unfold u4
    rw [List.drop_left' (by rw [List.length_append, la, lb]), List.take_of_length_le (by omega), un_be 4 c (by omega)]

/-- What all steps of saving leave. -/
theorem save_run {s : St} (hs : s.OK) (b : List UInt8) (k g : Nat) (hk : k < 2) (hn : 2 ≤ s.n) (hb : b.length ≤ 16 * areaN s.n) (hg : 1 ≤ g ∧ g ≤ 1073741824) :
    (exec (opsOf s.n k g b) s).1.n = s.n ∧ (exec (opsOf s.n k g b) s).1.room = s.room ∧ ((exec (opsOf s.n k g b) s).2 = 0 ∨ (exec (opsOf s.n k g b) s).2 = 30) ∧ (s.n ≤ s.room → (exec (opsOf s.n k g b) s).2 = 0) ∧
      cop (exec (opsOf s.n k g b) s).1 (1 - k) = cop s (1 - k) ∧ ((exec (opsOf s.n k g b) s).2 = 0 → cop (exec (opsOf s.n k g b) s).1 k = (b, g)) ∧ (¬ (exec (opsOf s.n k g b) s).2 = 0 → markB (exec (opsOf s.n k g b) s).1 k = markB s k) := by
  have hA : 2 * areaN s.n ≤ (s.n - 2).toNat := by unfold areaN; omega
  have hA2 : areaN s.n ≤ 2047 := by have := hs.n1; unfold areaN; omega
  have hch : nch b ≤ areaN s.n := by unfold nch; omega
  have hka : ((2 + k * areaN s.n : Nat) : Int) + areaN s.n ≤ s.n := by
    obtain rfl | rfl : k = 0 ∨ k = 1 := by omega
    · omega
    · omega
  have hkb : (((2 + (1 - k) * areaN s.n : Nat) : Int) + areaN s.n ≤ ((2 + k * areaN s.n : Nat) : Int)) ∨ (((2 + k * areaN s.n : Nat) : Int) + areaN s.n ≤ ((2 + (1 - k) * areaN s.n : Nat) : Int)) := by
    obtain rfl | rfl : k = 0 ∨ k = 1 := by omega
    · right; omega
    · left; omega
  obtain ⟨a, ha⟩ : ∃ a : Nat, a = 2 + k * areaN s.n := ⟨_, rfl⟩
  obtain ⟨a', ha'⟩ : ∃ a' : Nat, a' = 2 + (1 - k) * areaN s.n := ⟨_, rfl⟩
  have ha2 : 2 ≤ a := by omega
  have ha2' : 2 ≤ a' := by omega
  rw [← ha] at hka hkb
  rw [← ha'] at hkb
  obtain ⟨h1, h2, h3, h4, h5, h6⟩ := exec_data hs (a : Int) b (by omega) (nch b) (by omega)
  have hok := exec_ok hs (dataOps (a : Int) b (nch b))
  have e : exec (opsOf s.n k g b) s = if (exec (dataOps (a : Int) b (nch b)) s).2 = 0 then exec [.flush, .write (k : Int) (sealed (markX g b)), .flush] (exec (dataOps (a : Int) b (nch b)) s).1 else exec (dataOps (a : Int) b (nch b)) s := by
    rw [ha]
    exact exec_append _ _ _
  have hml : (sealed (markX g b)).length = 16 := by rw [sealed_length, markX_length]
  rw [e]
  clear e
  obtain ⟨⟨s1, e1⟩, hr⟩ : ∃ r, r = exec (dataOps (a : Int) b (nch b)) s := ⟨_, rfl⟩
  rw [← hr] at h1 h2 h3 h4 h5 h6 hok ⊢
  clear hr
  simp only at h1 h2 h3 h4 h5 h6 hok ⊢
  have keep : ∀ s' : St, s'.n = s.n → (∀ x : Int, x ≠ k → x < a ∨ (a : Int) + nch b ≤ x → sect s'.l x = sect s.l x) → cop s' (1 - k) = cop s (1 - k) := fun s' hn' hx => by
    refine cop_congr (by omega) hn hn' (hx _ (by omega) (by omega)) (fun x hx1 hx2 => ?_)
    rw [← ha'] at hx1 hx2
    exact hx x (by omega) (by omega)
  by_cases he : e1 = 0
  · rw [if_pos he]
    obtain ⟨s2, hs2⟩ : ∃ s2, s2 = doF s1 := ⟨_, rfl⟩
    have l2 : s2.l = s1.l := by rw [hs2]; rfl
    have n2 : s2.n = s1.n := by rw [hs2]; rfl
    have r2 : s2.room = s1.room := by rw [hs2]; rfl
    have ok2 : s2.OK := by rw [hs2]; exact hok.flush
    obtain ⟨k1, k2, k3, k4, k5, k6, k7⟩ := write16 ok2 hml (a := (k : Int)) ⟨by omega, by omega⟩
    have ok3 := ok2.write (k : Int) (sealed (markX g b))
    have e2 : exec [.flush, .write (k : Int) (sealed (markX g b)), .flush] s1 = if (doW s2 k (sealed (markX g b))).2 = 0 then (doF (doW s2 k (sealed (markX g b))).1, 0) else ((doW s2 k (sealed (markX g b))).1, (doW s2 k (sealed (markX g b))).2) := by
      rw [hs2]; rfl
    rw [e2]
    clear e2
    obtain ⟨⟨s3, e3⟩, hr3⟩ : ∃ r, r = doW s2 k (sealed (markX g b)) := ⟨_, rfl⟩
    rw [← hr3] at k1 k2 k3 k4 k5 k6 k7 ok3 ⊢
    clear hr3
    simp only at k1 k2 k3 k4 k5 k6 k7 ok3 ⊢
    have hx3 : ∀ x : Int, x ≠ k → x < a ∨ (a : Int) + nch b ≤ x → sect s3.l x = sect s.l x := fun x hxk hx => by
      rw [k3 x hxk, l2, h3 x hx]
    by_cases he3 : e3 = 0
    · rw [if_pos he3]
      refine ⟨(k1.trans n2).trans h1, (k2.trans r2).trans h2, .inl rfl, fun _ => rfl, keep (doF s3) ((k1.trans n2).trans h1) hx3, fun _ => ?_, fun h0 => absurd rfl h0⟩
      have hn3 : (doF s3).n = s.n := (k1.trans n2).trans h1
      have hl3 : (doF s3).l = s3.l := rfl
      have hm : markB (doF s3) k = sealed (markX g b) := by
        rw [markB_in (by omega), hl3]
        exact k6 he3
      have hbd : (bodyB (doF s3) k).take b.length = b := by
        rw [bodyB_in hk (by omega), hn3, ← ha, hl3]
        refine cat_bytes (fun x hx => (ok3.w x hx).2.2) (fun i hi => ?_) hch
        rw [k3 _ (by omega), l2]
        exact h6 he i hi
      have had := adler_lt b
      obtain ⟨u0, u1, u2⟩ := un_part g b.length (adler b) (by omega) (by omega) had
      unfold cop
      rw [hm, opened_sealed]
      simp only
      unfold copOf
      rw [show markX g b = be 4 g ++ be 4 b.length ++ be 4 (adler b) from rfl, u0, u1, u2, hbd, hn3, if_neg (by omega), if_neg (by simp)]
    · rw [if_neg he3]
      have hs32 := k7 he3
      refine ⟨(k1.trans n2).trans h1, (k2.trans r2).trans h2, k4, fun hr => k5 (by omega), keep s3 ((k1.trans n2).trans h1) hx3, fun h0 => absurd h0 he3, fun _ => ?_⟩
      show markB s3 k = markB s k
      rw [markB_in (by omega), markB_in (by omega), hs32, l2, h3 _ (by omega)]
  · rw [if_neg he]
    refine ⟨h1, h2, h4, h5, keep s1 h1 (fun x _ hx => h3 x hx), fun h0 => absurd h0 he, fun _ => ?_⟩
    show markB s1 k = markB s k
    rw [markB_in (by omega), markB_in (by omega), h3 _ (by omega)]

/-! ## what is told behind it -/
theorem newestP_ge (s : St) : (cop s 0).2 ≤ (newestP s).2.2 ∧ (cop s 1).2 ≤ (newestP s).2.2 := by
  unfold newestP
  split
  · simp only; omega
  split
  · simp only; omega
  · simp only; omega
theorem newestP_le (s : St) : (newestP s).2.2 ≤ 1073741824 := by
  unfold newestP
  split
  · exact cop_le s 1
  split
  · exact cop_le s 0
  · exact Nat.zero_le _
theorem kOf_lt (s : St) : kOf s < 2 := by unfold kOf; split <;> omega
theorem newest_of {s : St} {k g : Nat} {b : List UInt8} (hk : k < 2) (hc : cop s k = (b, g)) (ho : (cop s (1 - k)).2 < g) : newestP s = ((k : Int), b, g) := by
  obtain rfl | rfl : k = 0 ∨ k = 1 := by omega
  · have ho' : (cop s 1).2 < g := ho
    unfold newestP
    rw [hc]
    simp only
    rw [if_neg (by omega), if_pos (by omega)]
    rfl
  · have ho' : (cop s 0).2 < g := ho
    unfold newestP
    rw [hc]
    simp only
    rw [if_pos ho']
    rfl
theorem loadP_of {s : St} {k g : Nat} {b : List UInt8} (h : newestP s = ((k : Int), b, g)) : loadP s = (b, g, 0) := by
  unfold loadP
  rw [h]
  exact if_neg (by simp only; omega)
/-- Saving where there is room: what is told then. -/
theorem save_told {s : St} (hs : s.OK) (b : List UInt8) (hn : 2 ≤ s.n) (hb : b.length ≤ 16 * areaN s.n) (hg : (newestP s).2.2 < 1073741824) :
    (exec (beginP s b).1 s).1.n = s.n ∧ (exec (beginP s b).1 s).1.room = s.room ∧ (beginP s b).2 = 0 ∧ ((exec (beginP s b).1 s).2 = 0 ∨ (exec (beginP s b).1 s).2 = 30) ∧ (s.n ≤ s.room → (exec (beginP s b).1 s).2 = 0) ∧
      ((exec (beginP s b).1 s).2 = 0 → loadP (exec (beginP s b).1 s).1 = (b, (newestP s).2.2 + 1, 0) ∧ newestP (exec (beginP s b).1 s).1 = (((kOf s : Nat) : Int), b, (newestP s).2.2 + 1)) := by
  have hbg : beginP s b = (opsOf s.n (kOf s) ((newestP s).2.2 + 1) b, 0) := by
    unfold beginP
    rw [if_neg (by omega), if_neg (by omega)]
  rw [hbg]
  obtain ⟨h1, h2, h3, h4, h5, h6, _⟩ := save_run hs b (kOf s) ((newestP s).2.2 + 1) (kOf_lt s) hn hb (by omega)
  have hge := newestP_ge s
  refine ⟨h1, h2, rfl, h3, h4, fun h0 => ?_⟩
  have ho : (cop (exec (opsOf s.n (kOf s) ((newestP s).2.2 + 1) b) s).1 (1 - kOf s)).2 < (newestP s).2.2 + 1 := by
    rw [h5]
    have hk := kOf_lt s
    obtain e | e : 1 - kOf s = 0 ∨ 1 - kOf s = 1 := by omega
    · rw [e]; omega
    · rw [e]; omega
  have hnw := newest_of (kOf_lt s) (h6 h0) ho
  exact ⟨loadP_of hnw, hnw⟩
/-- A store that was never written. -/
theorem cop_new (n room : Int) (k : Nat) (h : k < n) : cop ⟨n, room, [], 0⟩ k = ([], 0) := by
  unfold cop
  rw [markB_in h]
  have e : opened (sect [] (k : Int)) = none := by
    show opened z16 = none
    decide
  simp only [e]
theorem newest_new (n room : Int) (h : 2 ≤ n) : newestP ⟨n, room, [], 0⟩ = (-1, [], 0) := by
  unfold newestP
  rw [cop_new n room 0 (by omega), cop_new n room 1 (by omega)]
  rfl
end Go.Proofs.Ytbljacafmkdlmaa

/- A store's maps as data: what a row of writes leaves. No program in sight. Condition: where a bound is named. -/
namespace Go.Proofs.Ytbljacafmkdlmaa
open Go.WideShapes Go.ChangeMaps

def keyL (a : Int) : Lit := .int .i64 a
def elD (x : List UInt8) : DataW Unit := .lit (.string x)
def Dof (l : List Wrt) : DataW Unit := l.foldl (fun D w => D.put (keyL w.1) (elD w.2)) (.map [])
theorem Dof_nil : Dof [] = .map [] := rfl
theorem Dof_snoc (l : List Wrt) (w : Wrt) : Dof (l ++ [w]) = (Dof l).put (keyL w.1) (elD w.2) := by simp [Dof]

/-- The keys rise, and are integers. -/
def CI (D : DataW Unit) : Prop := ∃ es, D = .map es ∧ es.Pairwise (fun p q => p.1.before q.1 = true) ∧ ∀ p ∈ es, ∃ a : Int, p.1 = keyL a
theorem intKind : Maps.OneKind (fun l => ∃ a : Int, l = keyL a) where
  key := fun ⟨a, h⟩ => by subst h; trivial
  total := fun ⟨a, ha⟩ ⟨b, hb⟩ hne => by
    subst ha hb
    simp only [keyL, Lit.before, decide_eq_true_eq]
    have : a ≠ b := fun e => hne (by rw [e])
    omega
theorem CI.canon {D : DataW Unit} (h : CI D) : Maps.Canon D := by
  obtain ⟨es, rfl, h1, h2⟩ := h
  exact ⟨es, rfl, h1, fun p hp => intKind.key (h2 p hp)⟩
theorem CI.tidy {D : DataW Unit} (h : CI D) : Maps.Tidy D := by
  obtain ⟨es, rfl, h1, _⟩ := h
  exact ⟨es, rfl, Maps.apart_of_rising h1⟩
theorem CI.put {D : DataW Unit} (h : CI D) (a : Int) (d : DataW Unit) : CI (D.put (keyL a) d) := by
  obtain ⟨es, rfl, h1, h2⟩ := h
  refine ⟨_, rfl, Maps.insert_sorted intKind ⟨a, rfl⟩ _ (h1.filter _) (fun p hp => h2 p (List.mem_filter.1 hp).1) (fun p hp he => ?_), fun p hp => ?_⟩
  · have h3 := (List.mem_filter.1 hp).2
    have h4 : p.1 = keyL a := he
    rw [h4] at h3
    rw [WideAt.sameKey_self (show WideAt.IsKeyLit (keyL a) from trivial)] at h3
    cases h3
  · rcases mem_insert_iff.1 hp with rfl | hp
    · exact ⟨a, rfl⟩
    · exact h2 p (List.mem_filter.1 hp).1
theorem CI_Dof (l : List Wrt) : CI (Dof l) := by
  induction l using snoc_ind with
  | h0 => exact ⟨[], rfl, List.Pairwise.nil, by simp⟩
  | h1 l w ih => rw [Dof_snoc]; exact ih.put _ _

theorem keyL_ne {a b : Int} (h : a ≠ b) : keyL a ≠ keyL b := fun e => by
  unfold keyL at e
  injection e with _ e
  exact h e
theorem has_Dof (l : List Wrt) (a : Int) : Maps.has (Dof l) (keyL a) = (lastW l a).isSome := by
  induction l using snoc_ind with
  | h0 => rfl
  | h1 l w ih =>
    rw [Dof_snoc, lastW_snoc]
    by_cases h : w.1 = a
    · subst h
      rw [if_pos rfl, Maps.has_put_same (CI_Dof l).tidy.isMap (show WideAt.IsKeyLit (keyL _) from trivial)]
      rfl
    · rw [if_neg h, Maps.has_put_other (keyL_ne (fun e => h e.symm)), ih]
theorem atKey_Dof (l : List Wrt) (a : Int) (z : DataW Unit) : (Dof l).atKey (keyL a) z = match lastW l a with | some x => elD x | none => z := by
  induction l using snoc_ind with
  | h0 => rfl
  | h1 l w ih =>
    rw [Dof_snoc, lastW_snoc]
    by_cases h : w.1 = a
    · subst h
      rw [if_pos rfl, Maps.atKey_put_same (CI_Dof l).tidy.isMap (show WideAt.IsKeyLit (keyL _) from trivial)]
    · rw [if_neg h, Maps.atKey_put_other (keyL_ne (fun e => h e.symm)), ih]
theorem atKey_sect (l : List Wrt) (a : Int) : (Dof l).atKey (keyL a) (elD z16) = elD (sect l a) := by
  rw [atKey_Dof]
  unfold sect
  cases lastW l a <;> rfl
theorem size_Dof (l : List Wrt) (n : Nat) (h : ∀ w ∈ l, 0 ≤ w.1 ∧ w.1 < n) : Maps.size (Dof l) = usedN l n := by
  induction l using snoc_ind with
  | h0 =>
    have : ∀ n, usedN [] n = 0 := fun n => by
      induction n with
      | zero => rfl
      | succ n ih => unfold usedN; rw [ih]; rfl
    rw [this]
    rfl
  | h1 l w ih =>
    have hw := h w (by simp)
    rw [Dof_snoc, Maps.size_put (CI_Dof l).tidy, has_Dof, ih (fun x hx => h x (by simp [hx])), usedN_snoc l w n hw.1]
    cases (lastW l w.1).isSome
    · simp [hw.2]
    · simp
theorem size_Dof_le (l : List Wrt) : Maps.size (Dof l) ≤ l.length := by
  induction l using snoc_ind with
  | h0 => exact Nat.le_refl _
  | h1 l w ih =>
    rw [Dof_snoc, Maps.size_put (CI_Dof l).tidy, List.length_append, List.length_singleton]
    split <;> omega

/-- Which keys are struck where there are only n sectors. -/
def pdn (n : Int) (k : Lit) (_ : DataW Unit) : Bool := match k with | .int _ a => decide (n ≤ a) | _ => false
theorem CI.strike {D : DataW Unit} (h : CI D) (n : Int) : CI (Lib.deleteFuncD (pdn n) D) := by
  obtain ⟨es, rfl, h1, h2⟩ := h
  exact ⟨_, rfl, h1.filter _, fun p hp => h2 p (List.mem_filter.1 hp).1⟩
theorem has_strike {D : DataW Unit} (n a : Int) : Maps.has (Lib.deleteFuncD (pdn n) D) (keyL a) = (Maps.has D (keyL a) && decide (a < n)) := by
  cases D <;> try rfl
  rename_i es
  show (es.filter fun p => !pdn n p.1 p.2).any (fun p => p.1.sameKey (keyL a)) = (es.any (fun p => p.1.sameKey (keyL a)) && decide (a < n))
  by_cases h : a < n
  · rw [decide_eq_true h, Bool.and_true]
    refine Maps.any_filter_keep (fun p hp => ?_) es
    have := WideAt.sameKey_eq hp
    rw [this]
    simp [pdn, keyL]
    exact h
  · rw [decide_eq_false h, Bool.and_false, List.any_eq_false]
    intro p hp hk
    have h1 := (List.mem_filter.1 hp).2
    have := WideAt.sameKey_eq hk
    rw [this] at h1
    simp [pdn, keyL] at h1
    omega
theorem atKey_strike {D : DataW Unit} {n a : Int} (h : a < n) (z : DataW Unit) : (Lib.deleteFuncD (pdn n) D).atKey (keyL a) z = D.atKey (keyL a) z := by
  cases D <;> try rfl
  rename_i es
  have e := Maps.find_filter_keep (f := fun p : Lit × DataW Unit => p.1.sameKey (keyL a)) (g := fun p => !pdn n p.1 p.2) (fun p hp => by
    have := WideAt.sameKey_eq hp
    rw [this]
    simp [pdn, keyL]
    exact h) es
  unfold DataW.atKey
  simp only [Lib.deleteFuncD]
  rw [e]
theorem lastW_filter (l : List Wrt) (n a : Int) : lastW (l.filter fun w => decide (w.1 < n)) a = if a < n then lastW l a else none := by
  induction l using snoc_ind with
  | h0 => simp [lastW_nil]
  | h1 l w ih =>
    rw [List.filter_append, lastW_snoc]
    by_cases hw : w.1 < n
    · have : List.filter (fun w => decide (w.1 < n)) [w] = [w] := by simp [hw]
      rw [this, lastW_snoc, ih]
      by_cases hwa : w.1 = a
      · subst hwa
        rw [if_pos rfl, if_pos hw, if_pos rfl]
      · rw [if_neg hwa, if_neg hwa]
    · have : List.filter (fun w => decide (w.1 < n)) [w] = [] := by simp [hw]
      rw [this, List.append_nil, ih]
      by_cases ha : a < n
      · rw [if_pos ha, if_pos ha, if_neg (by omega)]
      · rw [if_neg ha, if_neg ha]
theorem has_int {D : DataW Unit} (h : CI D) {k : Lit} (hk : Maps.has D k = true) : ∃ a : Int, k = keyL a := by
  obtain ⟨es, rfl, _, h2⟩ := h
  obtain ⟨p, hp, hs⟩ := List.any_eq_true.1 hk
  obtain ⟨a, ha⟩ := h2 p hp
  exact ⟨a, by rw [← ha]; exact (WideAt.sameKey_eq hs).symm⟩
theorem Dof_strike (l : List Wrt) (n : Int) : Lib.deleteFuncD (pdn n) (Dof l) = Dof (l.filter fun w => decide (w.1 < n)) := by
  have c1 := (CI_Dof l).strike n
  have c2 := CI_Dof (l.filter fun w => decide (w.1 < n))
  have key : ∀ a : Int, Maps.has (Lib.deleteFuncD (pdn n) (Dof l)) (keyL a) = Maps.has (Dof (l.filter fun w => decide (w.1 < n))) (keyL a) := fun a => by
    rw [has_strike, has_Dof, has_Dof, lastW_filter]
    by_cases h : a < n
    · simp [h]
    · simp [h]
  refine Maps.ext c1.canon c2.canon (fun k => ?_) (fun k z hk => ?_)
  · cases h1 : Maps.has (Lib.deleteFuncD (pdn n) (Dof l)) k
    · cases h2 : Maps.has (Dof (l.filter fun w => decide (w.1 < n))) k
      · rfl
      · obtain ⟨a, rfl⟩ := has_int c2 h2
        rw [← key, h1] at h2
        exact h2
    · obtain ⟨a, rfl⟩ := has_int c1 h1
      rw [← key, h1]
  · obtain ⟨a, rfl⟩ := has_int c1 hk
    rw [has_strike] at hk
    have ha : a < n := by
      simp only [Bool.and_eq_true, decide_eq_true_eq] at hk
      exact hk.2
    rw [atKey_strike ha, atKey_Dof, atKey_Dof, lastW_filter, if_pos ha]

/-! ## how a sector reads -/
def isB : Value → Bool
  | .int .u8 x => decide (0 ≤ x) && decide (x < 256)
  | _ => false
def byteOf : Value → UInt8
  | .int _ x => UInt8.ofNat x.toNat
  | _ => 0
def secR (v : Value) : Option (DataW Unit × List MemPlace) :=
  match v with
  | .agg cs => if cs.size = 16 ∧ cs.toList.all isB = true then some (elD (cs.toList.map byteOf), []) else none
  | _ => none
theorem byteOf_mk (c : UInt8) : byteOf (.int .u8 (c.toNat : Int)) = c := by
  show UInt8.ofNat (c.toNat : Int).toNat = c
  rw [Int.toNat_natCast, UInt8.ofNat_toNat]
theorem secR_mk {x : List UInt8} (h : x.length = 16) : secR (.agg (bv x).toArray) = some (elD x, []) := by
  unfold secR
  have h1 : (bv x).toArray.toList.all isB = true := by
    rw [List.all_eq_true]
    intro v hv
    obtain ⟨c, _, rfl⟩ := List.mem_map.1 hv
    have := c.toNat_lt
    simp only [isB, Bool.and_eq_true, decide_eq_true_eq]
    omega
  have h2 : (bv x).toArray.toList.map byteOf = x := by
    show (bv x).map byteOf = x
    unfold bv
    rw [List.map_map]
    conv => rhs; rw [← List.map_id x]
    exact List.map_congr_left (fun c _ => byteOf_mk c)
  have h3 : (bv x).toArray.size = 16 := by rw [List.size_toArray, bv_length, h]
  simp only
  rw [if_pos ⟨h3, h1⟩, h2]
theorem isB_inv {v : Value} (h : isB v = true) : v = .int .u8 ((byteOf v).toNat : Int) := by
  unfold isB at h
  split at h
  · rename_i x
    simp only [Bool.and_eq_true, decide_eq_true_eq] at h
    show Value.int .u8 x = .int .u8 ((UInt8.ofNat x.toNat).toNat : Int)
    rw [toNat_ofNat _ (by omega)]
    congr 1
    omega
  · cases h
theorem secR_inv {v : Value} {z : DataW Unit × List MemPlace} (h : secR v = some z) : ∃ x : List UInt8, x.length = 16 ∧ v = .agg (bv x).toArray ∧ z = (elD x, []) := by
  unfold secR at h
  split at h
  · rename_i cs
    split at h
    · rename_i hc
      injection h with h
      refine ⟨cs.toList.map byteOf, by simpa using hc.1, ?_, h.symm⟩
      have : (bv (cs.toList.map byteOf)) = cs.toList := by
        unfold bv
        rw [List.map_map]
        conv => rhs; rw [← List.map_id cs.toList]
        exact List.map_congr_left (fun v hv => (isB_inv (List.all_eq_true.1 hc.2 v hv)).symm)
      rw [this]
    · cases h
  · cases h
theorem elD_inj {x y : List UInt8} (h : elD x = elD y) : x = y := by
  unfold elD at h
  injection h with h
  injection h
end Go.Proofs.Ytbljacafmkdlmaa
