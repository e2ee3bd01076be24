/- Plain laws on counts: no program in sight. No condition. -/
import Derived.Test.YtjkklndpfmemhaaPlain
namespace Go.Proofs.Ytjkklndpfmemhaa

def firstZ (l : List Int) : Option Nat := l.findIdx? (fun x => x == 0)
theorem firstZ_some {l : List Int} {k : Nat} (hk : k < l.length) (h0 : l[k] = 0) (hall : ∀ j, j < k → ∀ x, l[j]? = some x → x ≠ 0) : firstZ l = some k := by
  unfold firstZ
  rw [List.findIdx?_eq_some_iff_getElem]
  refine ⟨hk, by simpa using h0, fun j hj => ?_⟩
  have := hall j hj _ (List.getElem?_eq_getElem (Nat.lt_trans hj hk))
  simpa using this
theorem firstZ_none {l : List Int} (hall : ∀ j, j < l.length → ∀ x, l[j]? = some x → x ≠ 0) : firstZ l = none := by
  unfold firstZ
  rw [List.findIdx?_eq_none_iff]
  intro x hx
  obtain ⟨j, hj, rfl⟩ := List.getElem_of_mem hx
  have := hall j hj _ (List.getElem?_eq_getElem hj)
  simpa using this
theorem firstZ_lt {l : List Int} {k : Nat} (h : firstZ l = some k) : ∃ hk : k < l.length, l[k] = 0 := by
  unfold firstZ at h
  rw [List.findIdx?_eq_some_iff_getElem] at h
  obtain ⟨hk, h0, _⟩ := h
  exact ⟨hk, by simpa using h0⟩
theorem firstZ_is {l : List Int} {k : Nat} (h : firstZ l = some k) : k < l.length ∧ l[k]? = some 0 ∧ ∀ j, j < k → ∀ x, l[j]? = some x → x ≠ 0 := by
  unfold firstZ at h
  rw [List.findIdx?_eq_some_iff_getElem] at h
  obtain ⟨hk, h0, h1⟩ := h
  refine ⟨hk, ?_, fun j hj x hx => ?_⟩
  · rw [List.getElem?_eq_getElem hk]
    congr 1
    simpa using h0
  · have := h1 j hj
    obtain ⟨hj', rfl⟩ := List.getElem?_eq_some_iff.1 hx
    simpa using this

def freeN (l : List Int) : Nat := l.countP (fun x => x == 0)
theorem freeN_take (l : List Int) (k : Nat) (h : k < l.length) : freeN (l.take (k + 1)) = freeN (l.take k) + (if l[k] = 0 then 1 else 0) := by
  unfold freeN
  rw [List.take_succ_eq_append_getElem h, List.countP_append, List.countP_singleton]
  simp
theorem freeN_le (l : List Int) : freeN l ≤ l.length := List.countP_le_length

def isIn (h : Int) (l : List Int) : Bool := decide (0 ≤ h) && decide (h < (l.length : Int))
theorem isIn_true {h : Int} {l : List Int} (hi : isIn h l = true) : ∃ k : Nat, h = (k : Int) ∧ k < l.length := by
  simp only [isIn, Bool.and_eq_true, decide_eq_true_eq] at hi
  exact ⟨h.toNat, by omega, by omega⟩
theorem isIn_false {h : Int} {l : List Int} (hi : isIn h l = false) : h < 0 ∨ (l.length : Int) ≤ h := by
  simp only [isIn, Bool.and_eq_false_iff, decide_eq_false_iff_not] at hi
  omega
theorem isIn_of {k : Nat} {l : List Int} (hk : k < l.length) : isIn (k : Int) l = true := by
  simp only [isIn, Bool.and_eq_true, decide_eq_true_eq]
  omega

def atF (l : List Int) (h : Int) : Int := if isIn h l then l.getD h.toNat 0 else 0
theorem atF_in {l : List Int} {k : Nat} (hk : k < l.length) : atF l (k : Int) = l[k] := by
  unfold atF
  rw [if_pos (isIn_of hk)]
  simp [hk]
theorem atF_out {l : List Int} {h : Int} (hi : isIn h l = false) : atF l h = 0 := by
  unfold atF
  rw [hi]
  rfl

def takeF (l : List Int) : List Int × Int × Int := match firstZ l with
  | some i => (l.set i 1, (i : Int), 0)
  | none => (l, 0, 70)
def moreF (l : List Int) (h : Int) : List Int × Int :=
  if isIn h l then (if atF l h = 0 then (l, 71) else if atF l h = 65535 then (l, 70) else (l.set h.toNat (atF l h + 1), 0)) else (l, 1)
def lessF (l : List Int) (h : Int) : List Int × Int × Int :=
  if isIn h l then (if atF l h = 0 then (l, 0, 71) else (l.set h.toNat (atF l h - 1), atF l h - 1, 0)) else (l, 0, 1)
def setF (l : List Int) (h n : Int) : List Int × Int :=
  if isIn h l ∧ 0 ≤ n ∧ n ≤ 65535 then (l.set h.toNat n, 0) else (l, 1)
def growF (l : List Int) (n : Int) : List Int × Int :=
  if n < (l.length : Int) ∨ 512 < n then (l, 1) else (l ++ List.replicate (n.toNat - l.length) 0, 0)
def doF (l : List Int) (k h n : Int) : List Int × Int × Int :=
  if k = 0 then takeF l
  else if k = 1 then ((moreF l h).1, 0, (moreF l h).2)
  else if k = 2 then lessF l h
  else if k = 3 then ((setF l h n).1, 0, (setF l h n).2)
  else if k = 4 then ((growF l n).1, 0, (growF l n).2)
  else (l, 0, 0)

/-- Counts that may be. -/
structure Good (l : List Int) : Prop where
  long : l.length ≤ 512
  each : ∀ x ∈ l, 0 ≤ x ∧ x ≤ 65535

theorem Good.at_ {l : List Int} (h : Good l) {k : Nat} (hk : k < l.length) : 0 ≤ l[k] ∧ l[k] ≤ 65535 := h.each _ (List.getElem_mem hk)
theorem Good.atF {l : List Int} (h : Good l) (i : Int) : 0 ≤ atF l i ∧ atF l i ≤ 65535 := by
  cases hi : isIn i l
  · rw [atF_out hi]; omega
  · obtain ⟨k, rfl, hk⟩ := isIn_true hi
    rw [atF_in hk]
    exact h.at_ hk
theorem Good.set_ {l : List Int} (h : Good l) (k : Nat) {x : Int} (hx : 0 ≤ x ∧ x ≤ 65535) : Good (l.set k x) :=
  ⟨by rw [List.length_set]; exact h.long, fun y hy => by
    rcases List.mem_or_eq_of_mem_set hy with hy | rfl
    · exact h.each y hy
    · exact hx⟩
theorem Good.zeros (n : Nat) (hn : n ≤ 512) : Good (List.replicate n 0) := ⟨by simpa using hn, fun x hx => by rw [List.eq_of_mem_replicate hx]; omega⟩
theorem Good.take_ {l : List Int} (h : Good l) : Good (takeF l).1 := by
  unfold takeF
  split
  · exact h.set_ _ (by omega)
  · exact h
theorem Good.more_ {l : List Int} (h : Good l) (i : Int) : Good (moreF l i).1 := by
  have := h.atF i
  unfold moreF
  split
  · split
    · exact h
    split
    · exact h
    · exact h.set_ _ (by omega)
  · exact h
theorem Good.less_ {l : List Int} (h : Good l) (i : Int) : Good (lessF l i).1 := by
  have := h.atF i
  unfold lessF
  split
  · split
    · exact h
    · exact h.set_ _ (by omega)
  · exact h
theorem Good.setF_ {l : List Int} (h : Good l) (i n : Int) : Good (setF l i n).1 := by
  unfold setF
  split
  · rename_i hc
    exact h.set_ _ hc.2
  · exact h
theorem Good.grow_ {l : List Int} (h : Good l) (n : Int) : Good (growF l n).1 := by
  unfold growF
  split
  · exact h
  · rename_i hc
    refine ⟨by rw [List.length_append, List.length_replicate]; omega, fun x hx => ?_⟩
    rcases List.mem_append.1 hx with hx | hx
    · exact h.each x hx
    · rw [List.eq_of_mem_replicate hx]; omega
theorem Good.do_ {l : List Int} (hg : Good l) (k h n : Int) : Good (doF l k h n).1 := by
  unfold doF
  split
  · exact hg.take_
  split
  · exact hg.more_ h
  split
  · exact hg.less_ h
  split
  · exact hg.setF_ h n
  split
  · exact hg.grow_ n
  · exact hg

/-- One of the calls goes the way that the reference's own calls go. -/
theorem do_zero (l : List Int) (h n : Int) : doF l 0 h n = takeF l := rfl
theorem do_one (l : List Int) (h n : Int) : doF l 1 h n = ((moreF l h).1, 0, (moreF l h).2) := rfl
theorem do_two (l : List Int) (h n : Int) : doF l 2 h n = lessF l h := rfl
theorem do_three (l : List Int) (h n : Int) : doF l 3 h n = ((setF l h n).1, 0, (setF l h n).2) := rfl
theorem do_four (l : List Int) (h n : Int) : doF l 4 h n = ((growF l n).1, 0, (growF l n).2) := rfl
theorem do_else (l : List Int) (k h n : Int) (h0 : k ≠ 0) (h1 : k ≠ 1) (h2 : k ≠ 2) (h3 : k ≠ 3) (h4 : k ≠ 4) : doF l k h n = (l, 0, 0) := by
  unfold doF
  rw [if_neg h0, if_neg h1, if_neg h2, if_neg h3, if_neg h4]
end Go.Proofs.Ytjkklndpfmemhaa
