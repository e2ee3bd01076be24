/- Plain laws on heads: no program in sight. No condition. -/
import Derived.Test.YtophnjoaajcfjaaPlain
namespace Go.Proofs.Ytophnjoaajcfjaa

def chOK (c : UInt8) : Bool := (decide (97 ≤ c.toNat) && decide (c.toNat ≤ 122)) || (decide (48 ≤ c.toNat) && decide (c.toNat ≤ 57)) || decide (c.toNat = 46) || decide (c.toNat = 45)
def nameOK (l : List UInt8) : Bool := l.all chOK && decide (1 ≤ l.length) && decide (l.length ≤ 15)
/-- A rune that is none of a name's. -/
def runeBad (r : Int) : Bool := (decide (r < 97) || decide (122 < r)) && (decide (r < 48) || decide (57 < r)) && decide (r ≠ 46) && decide (r ≠ 45)
theorem runeBad_ch (c : UInt8) : runeBad (c.toNat : Int) = !chOK c := by
  unfold runeBad chOK
  rw [Bool.eq_iff_iff]
  simp only [Bool.and_eq_true, Bool.or_eq_true, Bool.not_eq_true', decide_eq_true_eq, Bool.or_eq_false_iff, Bool.and_eq_false_iff, decide_eq_false_iff_not]
  omega
theorem runeBad_high {r : Int} (h : 128 ≤ r) : runeBad r = true := by
  unfold runeBad
  simp only [Bool.and_eq_true, Bool.or_eq_true, decide_eq_true_eq]
  omega
theorem chOK_low {c : UInt8} (h : chOK c = true) : c.toNat < 128 := by
  unfold chOK at h
  simp only [Bool.and_eq_true, Bool.or_eq_true, decide_eq_true_eq] at h
  omega

/-- The letters of a name, as the document lists them. -/
def signs : List UInt8 := [97, 98, 99, 100, 101, 102, 103, 104, 105, 106, 107, 108, 109, 110, 111, 112, 113, 114, 115, 116, 117, 118, 119, 120, 121, 122, 48, 49, 50, 51, 52, 53, 54, 55, 56, 57, 46, 45]
theorem signs_ok : ∀ n, n < 256 → signs.contains (UInt8.ofNat n) = chOK (UInt8.ofNat n) := by decide +kernel
theorem signs_has (c : UInt8) : signs.contains c = chOK c := by
  have h := signs_ok c.toNat c.toNat_lt
  rwa [UInt8.ofNat_toNat] at h

structure Hd where
  b : Int
  z : Int
  n : List UInt8
  g : Int
  c : Bool
  p : List Int
def okPart (x : Int) : Bool := decide (0 ≤ x) && decide (x ≤ 65535)
def inTo (n t : Int) : Bool := decide (0 ≤ n) && decide (n ≤ t)
def Hd.right (h : Hd) : Bool := inTo h.b 3 && inTo h.z 256 && (decide (h.n = []) || nameOK h.n) && inTo h.g 1099511627776 && decide (h.p.length ≤ 8) && h.p.all okPart

theorem Hd.right_of {h : Hd} (hr : h.right = true) : 0 ≤ h.b ∧ h.b ≤ 3 ∧ 0 ≤ h.z ∧ h.z ≤ 256 ∧ h.n.length ≤ 15 ∧ 0 ≤ h.g ∧ h.g ≤ 1099511627776 ∧ h.p.length ≤ 8 ∧ (∀ x ∈ h.p, 0 ≤ x ∧ x ≤ 65535) := by
  unfold Hd.right inTo at hr
  simp only [Bool.and_eq_true, Bool.or_eq_true, decide_eq_true_eq] at hr
  obtain ⟨⟨⟨⟨⟨⟨h1, h2⟩, h3, h4⟩, h5⟩, h6, h7⟩, h8⟩, h9⟩ := hr
  refine ⟨h1, h2, h3, h4, ?_, h6, h7, h8, fun x hx => ?_⟩
  · rcases h5 with h | h
    · rw [h]; simp
    · unfold nameOK at h
      simp only [Bool.and_eq_true, decide_eq_true_eq] at h
      exact h.2
  · have := List.all_eq_true.1 h9 x hx
    unfold okPart at this
    simpa using this

/-- The text of a head, without its sum. -/
def one01 (b : Bool) : Nat := if b then 1 else 0
def magic : List UInt8 := [112, 101, 110, 116, 105, 109, 101, 110, 116, 111]
def Hd.text (h : Hd) : List UInt8 := magic ++ be 1 h.b.toNat ++ be 2 h.z.toNat ++ (be 1 h.n.length ++ h.n) ++ be 8 h.g.toNat ++ be 1 (one01 h.c) ++ be 1 h.p.length ++ h.p.flatMap fun x => be 2 x.toNat
end Go.Proofs.Ytophnjoaajcfjaa
