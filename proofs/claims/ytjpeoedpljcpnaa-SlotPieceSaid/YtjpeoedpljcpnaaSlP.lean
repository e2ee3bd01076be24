/- Plain laws on slots: no program in sight. No condition. -/
import Derived.Test.YtjpeoedpljcpnaaPlain
namespace Go.Proofs.Ytjpeoedpljcpnaa

structure Sl where
  k : Int
  h : Int
  o : Bool
deriving DecidableEq

def Sl.right (s : Sl) : Bool := if s.k = 1 then decide (0 ≤ s.h) && decide (s.h < 512) else (decide (s.k = 0) || decide (s.k = 2)) && decide (s.h = 0) && !s.o
def Sl.num (s : Sl) : Int := 8 * s.h + s.k + (if s.o then 4 else 0)
def slOf (n : Nat) : Sl := ⟨((n % 4 : Nat) : Int), ((n / 8 : Nat) : Int), decide (4 ≤ n % 8)⟩

theorem Sl.right_cases {s : Sl} (h : s.right = true) : (s.k = 1 ∧ 0 ≤ s.h ∧ s.h < 512) ∨ (s.k = 0 ∧ s.h = 0 ∧ s.o = false) ∨ (s.k = 2 ∧ s.h = 0 ∧ s.o = false) := by
  unfold Sl.right at h
  split at h
  · rename_i hk
    simp only [Bool.and_eq_true, decide_eq_true_eq] at h
    exact .inl ⟨hk, h.1, h.2⟩
  · simp only [Bool.and_eq_true, Bool.or_eq_true, decide_eq_true_eq, Bool.not_eq_true'] at h
    obtain ⟨⟨h1 | h1, h2⟩, h3⟩ := h
    · exact .inr (.inl ⟨h1, h2, h3⟩)
    · exact .inr (.inr ⟨h1, h2, h3⟩)
theorem Sl.num_ok {s : Sl} (h : s.right = true) : 0 ≤ s.num ∧ s.num < 4096 := by
  unfold Sl.num
  rcases s.right_cases h with ⟨h1, h2, h3⟩ | ⟨h1, h2, h3⟩ | ⟨h1, h2, h3⟩ <;> cases ho : s.o <;> simp_all <;> omega
theorem slOf_num {s : Sl} (h : s.right = true) : slOf s.num.toNat = s := by
  have hn := s.num_ok h
  obtain ⟨k, hh, o⟩ := s
  obtain ⟨n, hn'⟩ := Int.eq_ofNat_of_zero_le hn.1
  rw [hn', Int.toNat_natCast]
  unfold Sl.num at hn'
  unfold slOf
  rcases Sl.right_cases h with ⟨h1, h2, h3⟩ | ⟨h1, h2, h3⟩ | ⟨h1, h2, h3⟩ <;> cases o <;> simp_all <;> omega
theorem num_slOf (n : Nat) : (slOf n).num = n := by
  unfold slOf Sl.num
  by_cases h : 4 ≤ n % 8
  · simp only [h, decide_true, if_true]
    omega
  · simp only [h, decide_false]
    simp
    omega

/-- The bytes of a row of slots. -/
def allB (l : List Sl) : List UInt8 := l.flatMap fun s => be 4 s.num.toNat
def allR (l : List Sl) : Bool := l.all Sl.right
theorem allB_nil : allB [] = [] := rfl
theorem allB_cons (s : Sl) (l : List Sl) : allB (s :: l) = be 4 s.num.toNat ++ allB l := by simp [allB]
theorem allB_append (a b : List Sl) : allB (a ++ b) = allB a ++ allB b := by simp [allB]
theorem allB_snoc (l : List Sl) (s : Sl) : allB (l ++ [s]) = allB l ++ be 4 s.num.toNat := by simp [allB]
theorem allB_length (l : List Sl) : (allB l).length = 4 * l.length := by
  induction l with
  | nil => rfl
  | cons s l ih => rw [allB_cons, List.length_append, be_length, ih, List.length_cons]; omega
theorem allR_cons (s : Sl) (l : List Sl) : allR (s :: l) = (s.right && allR l) := by simp [allR]
theorem allR_append (a b : List Sl) : allR (a ++ b) = (allR a && allR b) := by simp [allR]
theorem allR_get {l : List Sl} (h : allR l = true) {k : Nat} (hk : k < l.length) : l[k].right = true := List.all_eq_true.1 h _ (List.getElem_mem hk)
theorem allR_not {l : List Sl} {k : Nat} (hk : k < l.length) (h : l[k].right = false) : allR l = false := by
  cases h2 : allR l
  · rfl
  · rw [allR_get h2 hk] at h
    cases h
theorem allR_of {l : List Sl} (h : ∀ k (hk : k < l.length), l[k].right = true) : allR l = true := by
  unfold allR
  rw [List.all_eq_true]
  intro s hs
  obtain ⟨k, hk, rfl⟩ := List.getElem_of_mem hs
  exact h k hk

/-- The slots that bytes are. -/
def restF (b : List UInt8) : Option (List Sl) :=
  if b.length = 0 then some [] else if b.length < 4 then none else if (slOf (un (b.take 4))).right then (restF (b.drop 4)).map (slOf (un (b.take 4)) :: ·) else none
termination_by b.length
decreasing_by simp only [List.length_drop]; omega

theorem restF_nil : restF [] = some [] := by rw [restF]; rfl
theorem restF_short {b : List UInt8} (h0 : 0 < b.length) (h : b.length < 4) : restF b = none := by rw [restF, if_neg (by omega), if_pos h]
theorem restF_bad {b : List UInt8} (h : 4 ≤ b.length) (hr : (slOf (un (b.take 4))).right = false) : restF b = none := by rw [restF, if_neg (by omega), if_neg (by omega), hr]; rfl
theorem restF_good {b : List UInt8} (h : 4 ≤ b.length) (hr : (slOf (un (b.take 4))).right = true) : restF b = (restF (b.drop 4)).map (slOf (un (b.take 4)) :: ·) := by
  conv => lhs; rw [restF, if_neg (by omega), if_neg (by omega), if_pos hr]

theorem un4 {b : List UInt8} (h : 4 ≤ b.length) : be 4 (un (b.take 4)) = b.take 4 := be_un 4 _ (by rw [List.length_take]; omega)

/-- What is read is right, and written as the same bytes. -/
theorem restF_some : ∀ (n : Nat) (b : List UInt8) (l : List Sl), b.length ≤ n → restF b = some l → allR l = true ∧ allB l = b := by
  intro n
  induction n with
  | zero =>
    intro b l hb h
    obtain rfl : b = [] := List.eq_nil_of_length_eq_zero (by omega)
    rw [restF_nil] at h
    injection h with h
    subst h
    exact ⟨rfl, rfl⟩
  | succ n ih =>
    intro b l hb h
    by_cases h0 : b.length = 0
    · obtain rfl : b = [] := List.eq_nil_of_length_eq_zero h0
      rw [restF_nil] at h
      injection h with h
      subst h
      exact ⟨rfl, rfl⟩
    by_cases h4 : b.length < 4
    · rw [restF_short (by omega) h4] at h
      cases h
    cases hr : (slOf (un (b.take 4))).right
    · rw [restF_bad (by omega) hr] at h
      cases h
    · rw [restF_good (by omega) hr] at h
      obtain ⟨r, h1, rfl⟩ := Option.map_eq_some_iff.1 h
      obtain ⟨h2, h3⟩ := ih (b.drop 4) r (by rw [List.length_drop]; omega) h1
      refine ⟨by rw [allR_cons, hr, h2]; rfl, ?_⟩
      rw [allB_cons, h3, num_slOf, Int.toNat_natCast, un4 (by omega), List.take_append_drop]
/-- What was written is read. -/
theorem restF_all (l : List Sl) (h : allR l = true) : restF (allB l) = some l := by
  induction l with
  | nil => exact restF_nil
  | cons s l ih =>
    rw [allR_cons, Bool.and_eq_true] at h
    have hn := s.num_ok h.1
    have ht : (allB (s :: l)).take 4 = be 4 s.num.toNat := by rw [allB_cons, List.take_left' (be_length _ _)]
    have hd : (allB (s :: l)).drop 4 = allB l := by rw [allB_cons, List.drop_left' (be_length _ _)]
    have hu : un ((allB (s :: l)).take 4) = s.num.toNat := by rw [ht, un_be 4 _ (by show _ < 4294967296; omega)]
    have hs : slOf (un ((allB (s :: l)).take 4)) = s := by rw [hu, slOf_num h.1]
    have hl : 4 ≤ (allB (s :: l)).length := by rw [allB_length, List.length_cons]; omega
    rw [restF_good hl (by rw [hs]; exact h.1), hs, hd, ih h.2]
    rfl
theorem allB_inj {a b : List Sl} (ha : allR a = true) (hb : allR b = true) (h : allB a = allB b) : a = b := by
  have h1 := restF_all a ha
  rw [h, restF_all b hb] at h1
  injection h1 with h1
  exact h1.symm
/-- One slot that bytes are. -/
def oneF (b : List UInt8) : Option Sl := if b.length = 4 ∧ (slOf (un b)).right = true then some (slOf (un b)) else none
theorem one_rest (b : List UInt8) : oneF b = match restF b with
    | some [s] => some s
    | _ => none := by
  unfold oneF
  by_cases h4 : b.length = 4
  · have ht : b.take 4 = b := List.take_of_length_le (by omega)
    have hd : b.drop 4 = [] := List.drop_eq_nil_of_le (by omega)
    cases hr : (slOf (un b)).right
    · rw [restF_bad (by omega) (by rw [ht]; exact hr)]
      simp
    · rw [restF_good (by omega) (by rw [ht]; exact hr), ht, hd, restF_nil]
      simp [h4]
  · rw [if_neg (fun h => h4 h.1)]
    cases hr : restF b with
    | none => rfl
    | some l =>
      obtain ⟨_, h2⟩ := restF_some b.length b l (Nat.le_refl _) hr
      have hl : b.length = 4 * l.length := by rw [← h2, allB_length]
      match l, hl with
      | [], _ => rfl
      | [s], hl => simp at hl; omega
      | s :: t :: r, _ => rfl
end Go.Proofs.Ytjpeoedpljcpnaa
