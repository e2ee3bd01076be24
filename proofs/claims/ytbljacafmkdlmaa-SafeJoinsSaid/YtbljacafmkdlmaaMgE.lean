/- Several texts in one: NmP, HdP, HdD, JnP. -/
import Derived.Test.YtbljacafmkdlmaaRdr
import Derived.Test.YtbljacafmkdlmaaPlain
import Derived.Test.YtbljacafmkdlmaaMgA
/- Plain laws on what a number that is read leaves. No condition. -/
namespace Go.Proofs.Ytbljacafmkdlmaa
set_option maxRecDepth 100000

theorem rt2 : rt 2 = true := by decide
theorem nm_bad (l : List UInt8) (e : Int) (he : e ≠ 0) (w : Int) : nm l e w = (l, e, 0) := by
  unfold nm
  have : ∀ b, tk l e w b = (l, e, []) := fun b => by unfold tk; rw [if_pos he]
  simp only [this]
  rfl
theorem nm_short (l : List UInt8) (W : Nat) (hw : rt W = true) (hl : l.length < W) : nm l 0 W = (l, 10, 0) := by
  unfold nm
  have : tk l 0 W (!rt W) = (l, 10, []) := by
    unfold tk
    rw [hw, if_neg (by simp), if_neg (by simp), if_pos (by omega)]
  simp only [this]
  rfl
theorem nm_yes (l : List UInt8) (W : Nat) (hw : rt W = true) (h8 : W ≠ 8) (hl : W ≤ l.length) : nm l 0 W = (l.drop W, 0, un (l.take W)) := by
  unfold nm
  have : tk l 0 W (!rt W) = (l.drop W, 0, l.take W) := by
    unfold tk
    rw [hw, if_neg (by simp), if_neg (by simp), if_neg (by omega), Int.toNat_natCast]
  simp only [this]
  rw [if_neg]
  rintro ⟨h1, _⟩
  rw [List.length_take] at h1
  omega

end Go.Proofs.Ytbljacafmkdlmaa

/- Plain laws on heads: no program in sight. No condition. -/
namespace Go.Proofs.Ytbljacafmkdlmaa
set_option maxRecDepth 100000

def chOK (c : UInt8) : Bool := (decide (97 ≤ c.toNat) && decide (c.toNat ≤ 122)) || (decide (48 ≤ c.toNat) && decide (c.toNat ≤ 57)) || decide (c.toNat = 46) || decide (c.toNat = 45)
def nameOK (l : List UInt8) : Bool := l.all chOK && decide (1 ≤ l.length) && decide (l.length ≤ 15)
/-- A rune that is none of a name's. -/
def runeBad (r : Int) : Bool := (decide (r < 97) || decide (122 < r)) && (decide (r < 48) || decide (57 < r)) && decide (r ≠ 46) && decide (r ≠ 45)
theorem runeBad_ch (c : UInt8) : runeBad (c.toNat : Int) = !chOK c := by
  unfold runeBad chOK
  rw [Bool.eq_iff_iff]
  simp only [Bool.and_eq_true, Bool.or_eq_true, Bool.not_eq_true', decide_eq_true_eq, Bool.or_eq_false_iff, Bool.and_eq_false_iff, decide_eq_false_iff_not]
  omega
theorem runeBad_high {r : Int} (h : 128 ≤ r) : runeBad r = true := by
  unfold runeBad
  simp only [Bool.and_eq_true, Bool.or_eq_true, decide_eq_true_eq]
  omega
theorem chOK_low {c : UInt8} (h : chOK c = true) : c.toNat < 128 := by
  unfold chOK at h
  simp only [Bool.and_eq_true, Bool.or_eq_true, decide_eq_true_eq] at h
  omega

/-- The letters of a name, as the document lists them. -/
def signs : List UInt8 := [97, 98, 99, 100, 101, 102, 103, 104, 105, 106, 107, 108, 109, 110, 111, 112, 113, 114, 115, 116, 117, 118, 119, 120, 121, 122, 48, 49, 50, 51, 52, 53, 54, 55, 56, 57, 46, 45]
theorem signs_ok : ∀ n, n < 256 → signs.contains (UInt8.ofNat n) = chOK (UInt8.ofNat n) := by decide +kernel
theorem signs_has (c : UInt8) : signs.contains c = chOK c := by
  have h := signs_ok c.toNat c.toNat_lt
  rwa [UInt8.ofNat_toNat] at h

structure Hd where
  b : Int
  z : Int
  n : List UInt8
  g : Int
  c : Bool
  p : List Int
def okPart (x : Int) : Bool := decide (0 ≤ x) && decide (x ≤ 65535)
def inTo (n t : Int) : Bool := decide (0 ≤ n) && decide (n ≤ t)
def Hd.right (h : Hd) : Bool := inTo h.b 3 && inTo h.z 256 && (decide (h.n = []) || nameOK h.n) && inTo h.g 1099511627776 && decide (h.p.length ≤ 8) && h.p.all okPart

theorem Hd.right_of {h : Hd} (hr : h.right = true) : 0 ≤ h.b ∧ h.b ≤ 3 ∧ 0 ≤ h.z ∧ h.z ≤ 256 ∧ h.n.length ≤ 15 ∧ 0 ≤ h.g ∧ h.g ≤ 1099511627776 ∧ h.p.length ≤ 8 ∧ (∀ x ∈ h.p, 0 ≤ x ∧ x ≤ 65535) := by
  unfold Hd.right inTo at hr
  simp only [Bool.and_eq_true, Bool.or_eq_true, decide_eq_true_eq] at hr
  obtain ⟨⟨⟨⟨⟨⟨h1, h2⟩, h3, h4⟩, h5⟩, h6, h7⟩, h8⟩, h9⟩ := hr
  refine ⟨h1, h2, h3, h4, ?_, h6, h7, h8, fun x hx => ?_⟩
  · rcases h5 with h | h
    · rw [h]; simp
    · unfold nameOK at h
      simp only [Bool.and_eq_true, decide_eq_true_eq] at h
      exact h.2
  · have := List.all_eq_true.1 h9 x hx
    unfold okPart at this
    simpa using this

/-- The text of a head, without its sum. -/
def one01 (b : Bool) : Nat := if b then 1 else 0
def magic : List UInt8 := [112, 101, 110, 116, 105, 109, 101, 110, 116, 111]
def Hd.text (h : Hd) : List UInt8 := magic ++ be 1 h.b.toNat ++ be 2 h.z.toNat ++ (be 1 h.n.length ++ h.n) ++ be 8 h.g.toNat ++ be 1 (one01 h.c) ++ be 1 h.p.length ++ h.p.flatMap fun x => be 2 x.toNat
end Go.Proofs.Ytbljacafmkdlmaa

/- Plain laws on a head that is read: no program in sight. No condition. -/
namespace Go.Proofs.Ytbljacafmkdlmaa
set_option maxRecDepth 100000

/-- So many numbers of two bytes, one behind the other. -/
def rk : Nat → List UInt8 → Int → List UInt8 × Int × List Int
  | 0, l, e => (l, e, [])
  | k + 1, l, e => ((nm (rk k l e).1 (rk k l e).2.1 2).1, (nm (rk k l e).1 (rk k l e).2.1 2).2.1, (rk k l e).2.2 ++ [((nm (rk k l e).1 (rk k l e).2.1 2).2.2 : Int)])

theorem rk_length : ∀ (k : Nat) (l : List UInt8) (e : Int), (rk k l e).2.2.length = k
  | 0, _, _ => rfl
  | k + 1, l, e => by
    show ((rk k l e).2.2 ++ [_]).length = _
    rw [List.length_append, rk_length k]
    rfl
theorem rk_small : ∀ (k : Nat) (l : List UInt8) (e : Int), ∀ x ∈ (rk k l e).2.2, 0 ≤ x ∧ x ≤ 65535
  | 0, _, _, x, hx => by cases hx
  | k + 1, l, e, x, hx => by
    rcases List.mem_append.1 hx with hx | hx
    · exact rk_small k l e x hx
    · rw [List.mem_singleton] at hx
      subst hx
      refine ⟨by omega, ?_⟩
      by_cases he : (rk k l e).2.1 = 0
      · by_cases hl : (rk k l e).1.length < 2
        · rw [he, show (2 : Int) = ((2 : Nat) : Int) from rfl, nm_short _ 2 rt2 hl]
          show (0 : Int) ≤ 65535
          decide
        · rw [he, show (2 : Int) = ((2 : Nat) : Int) from rfl, nm_yes _ 2 rt2 (by omega) (by omega)]
          have h := un_lt ((rk k l e).1.take 2)
          rw [List.length_take, Nat.min_eq_left (by omega)] at h
          have : (256 : Nat) ^ 2 = 65536 := rfl
          simp only
          omega
      · rw [nm_bad _ _ he]
        show (0 : Int) ≤ 65535
        decide
theorem rk_len : ∀ (k : Nat) (l : List UInt8) (e : Int), (rk k l e).1.length ≤ l.length
  | 0, _, _ => Nat.le_refl _
  | k + 1, l, e => by
    refine Nat.le_trans ?_ (rk_len k l e)
    show (nm _ _ 2).1.length ≤ _
    by_cases he : (rk k l e).2.1 = 0
    · by_cases hl : (rk k l e).1.length < 2
      · rw [he, show (2 : Int) = ((2 : Nat) : Int) from rfl, nm_short _ 2 rt2 hl]
        exact Nat.le_refl _
      · rw [he, show (2 : Int) = ((2 : Nat) : Int) from rfl, nm_yes _ 2 rt2 (by omega) (by omega)]
        show (List.drop 2 _).length ≤ _
        rw [List.length_drop]
        omega
    · rw [nm_bad _ _ he]
      exact Nat.le_refl _
/-- What was read without an error is what stands there. -/
theorem rk_ok : ∀ (k : Nat) (l : List UInt8) (e : Int), (rk k l e).2.1 = 0 → e = 0 ∧ l = putB 2 (rk k l e).2.2 ++ (rk k l e).1
  | 0, _, _, h => ⟨h, rfl⟩
  | k + 1, l, e, h => by
    have h' : (nm (rk k l e).1 (rk k l e).2.1 2).2.1 = 0 := h
    by_cases he : (rk k l e).2.1 = 0
    · obtain ⟨h1, h2⟩ := rk_ok k l e he
      refine ⟨h1, ?_⟩
      rw [he] at h'
      by_cases hl : (rk k l e).1.length < 2
      · rw [show (2 : Int) = ((2 : Nat) : Int) from rfl, nm_short _ 2 rt2 hl] at h'
        cases h'
      · show l = putB 2 ((rk k l e).2.2 ++ [((nm (rk k l e).1 (rk k l e).2.1 2).2.2 : Int)]) ++ (nm (rk k l e).1 (rk k l e).2.1 2).1
        rw [he, show (2 : Int) = ((2 : Nat) : Int) from rfl, nm_yes _ 2 rt2 (by omega) (by omega), putB_snoc, Int.toNat_natCast, be_un 2 _ (by rw [List.length_take]; omega), List.append_assoc, List.take_append_drop]
        exact h2
    · rw [nm_bad _ _ he] at h'
      exact absurd h' he
/-- What was written is read. -/
theorem rk_put : ∀ (vs : List Int) (rest : List UInt8), (∀ x ∈ vs, 0 ≤ x ∧ x ≤ 65535) → rk vs.length (putB 2 vs ++ rest) 0 = (rest, 0, vs) := by
  intro vs
  induction vs using snoc_ind with
  | h0 => intro rest _; rfl
  | h1 vs x ih =>
    intro rest hv
    have hx := hv x (by simp)
    have h1 := ih (be 2 x.toNat ++ rest) (fun y hy => hv y (by simp [hy]))
    rw [List.length_append, List.length_singleton]
    show ((nm (rk vs.length _ 0).1 (rk vs.length _ 0).2.1 2).1, _, _) = _
    rw [putB_snoc, List.append_assoc, h1]
    simp only
    rw [show (2 : Int) = ((2 : Nat) : Int) from rfl, nm_yes _ 2 rt2 (by omega) (by rw [List.length_append, be_length]; omega), List.drop_left' (be_length _ _), List.take_left' (be_length _ _), un_be 2 _ (by show _ < 65536; omega)]
    simp only
    congr 3
    rw [show ((x.toNat : Nat) : Int) = x by omega]

/-- How many there are said to be; what is left behind them; the error; they. -/
theorem nm_put (W x : Nat) (rest : List UInt8) (hw : rt W = true) (hx : (x : Int) < lim W) : nm (be W x ++ rest) 0 W = (rest, 0, x) := by
  have hxW : x < 256 ^ W := by
    have := lim_pow hw
    omega
  have ht : tk (be W x ++ rest) 0 W (!rt W) = (rest, 0, be W x) := by
    unfold tk
    rw [hw, if_neg (by simp), if_neg (by simp), if_neg (by rw [List.length_append, be_length]; omega), Int.toNat_natCast, List.drop_left' (be_length _ _), List.take_left' (be_length _ _)]
  unfold nm
  simp only [ht]
  rw [un_be W x hxW, if_neg]
  rintro ⟨h1, h2⟩
  rw [be_length] at h1
  subst h1
  rw [be_cons 7 x, List.take_succ_cons, List.take_zero] at h2
  have h3 : un [UInt8.ofNat (x / 256 ^ 7 % 256)] = x / 256 ^ 7 % 256 := by
    show (0 * 256 + (UInt8.ofNat (x / 256 ^ 7 % 256)).toNat) = _
    rw [toNat_ofNat _ (Nat.mod_lt _ (by omega))]
    omega
  rw [h3] at h2
  have h4 : (x : Int) < 4611686018427387904 := hx
  have h5 : (256 : Nat) ^ 7 = 72057594037927936 := by decide
  rw [h5] at h2
  omega


/-- A number that was read without an error is what stands there. -/
theorem nm_ok {l : List UInt8} {e : Int} {W : Nat} (hw : rt W = true) (h : (nm l e W).2.1 = 0) : e = 0 ∧ l = be W (nm l e W).2.2 ++ (nm l e W).1 ∧ ((nm l e W).2.2 : Int) < lim W := by
  by_cases he : e = 0
  · subst he
    by_cases hl : l.length < W
    · rw [nm_short _ W hw hl] at h
      cases h
    · have ht : tk l 0 W (!rt W) = (l.drop W, 0, l.take W) := by
        unfold tk
        rw [hw, if_neg (by simp), if_neg (by simp), if_neg (by omega), Int.toNat_natCast]
      have hlen : (l.take W).length = W := by rw [List.length_take]; omega
      unfold nm at h ⊢
      simp only [ht] at h ⊢
      split
      · rename_i h8
        rw [if_pos h8] at h
        cases h
      · rename_i h8
        have hlt := un_lt (l.take W)
        rw [hlen] at hlt
        refine ⟨by trivial, ?_, ?_⟩
        · simp only
          rw [be_un W _ hlen, List.take_append_drop]
        · simp only
          by_cases hW8 : W = 8
          · subst hW8
            have : un (l.take 8) < 4611686018427387904 := un_small _ (by omega) (fun hl8 => by
              have h1 := un_one (l.take 8) (by omega)
              rw [h1] at h8
              omega)
            show _ < (4611686018427387904 : Int)
            omega
          · have hp : (256 ^ W : Nat) = lim W := by
              unfold lim
              rw [if_neg (by omega), Int.toNat_natCast]
              simp
            rw [← hp]
            omega
  · rw [nm_bad _ _ he] at h
    exact absurd h he
theorem nm_zero {l : List UInt8} {e : Int} {W : Int} (he : e ≠ 0) : (nm l e W).2.1 ≠ 0 := by rw [nm_bad _ _ he]; exact he
theorem rk_bad (k : Nat) (l : List UInt8) (e : Int) (he : e ≠ 0) : (rk k l e).2.1 ≠ 0 := fun h => he (rk_ok k l e h).1

theorem tx_ok {l : List UInt8} {e : Int} (h : (tx l e 1).2.1 = 0) : e = 0 ∧ l = be 1 (tx l e 1).2.2.length ++ (tx l e 1).2.2 ++ (tx l e 1).1 := by
  have hw : rt ((1 : Nat) : Int) = true := by decide
  unfold tx at h ⊢
  by_cases h1 : (nm l e 1).2.1 = 0
  · obtain ⟨e0, hl, hx⟩ := nm_ok (W := 1) hw h1
    rw [show ((1 : Nat) : Int) = 1 from rfl] at hl hx
    rw [h1] at h ⊢
    refine ⟨e0, ?_⟩
    unfold tk at h ⊢
    simp only [ne_eq, not_true_eq_false, if_false, Bool.false_eq_true] at h ⊢
    split at h
    · cases h
    · rename_i hle
      rw [if_neg hle]
      simp only [Int.toNat_natCast]
      rw [List.length_take, Nat.min_eq_left (by omega), List.append_assoc, List.take_append_drop]
      exact hl
  · have : (tk (nm l e 1).1 (nm l e 1).2.1 (nm l e 1).2.2 false) = ((nm l e 1).1, (nm l e 1).2.1, []) := by unfold tk; rw [if_pos h1]
    rw [this] at h
    exact absurd h h1
theorem tx_put (s rest : List UInt8) (hs : s.length < 256) : tx (be 1 s.length ++ s ++ rest) 0 1 = (rest, 0, s) := by
  have h := nm_put 1 s.length (s ++ rest) (by decide) (by show _ < (256 : Int); omega)
  rw [show ((1 : Nat) : Int) = 1 from rfl] at h
  unfold tx
  rw [List.append_assoc, h]
  unfold tk
  simp only [ne_eq, not_true_eq_false, if_false, Bool.false_eq_true, Int.toNat_natCast]
  rw [if_neg (by rw [List.length_append]; omega), List.drop_left, List.take_left]

/-- What is read behind the sign: the head, the byte that tells whether it is clean, what is left, the error. -/
def s1 (l : List UInt8) (e : Int) := nm l e 1
def s2 (l : List UInt8) (e : Int) := nm (s1 l e).1 (s1 l e).2.1 2
def s3 (l : List UInt8) (e : Int) := tx (s2 l e).1 (s2 l e).2.1 1
def s4 (l : List UInt8) (e : Int) := nm (s3 l e).1 (s3 l e).2.1 8
def s5 (l : List UInt8) (e : Int) := nm (s4 l e).1 (s4 l e).2.1 1
def s6 (l : List UInt8) (e : Int) := nm (s5 l e).1 (s5 l e).2.1 1
def s7 (l : List UInt8) (e : Int) := rk (s6 l e).2.2 (s6 l e).1 (s6 l e).2.1
def fld (l : List UInt8) (e : Int) : Hd := ⟨(s1 l e).2.2, (s2 l e).2.2, (s3 l e).2.2, (s4 l e).2.2, decide ((s5 l e).2.2 = 1), (s7 l e).2.2⟩

def noH : Hd := ⟨0, 0, [], 0, false, []⟩
/-- The code's answer. -/
def decH (b : List UInt8) : Hd × Int :=
  match opened b with
  | none => (noH, 51)
  | some x =>
    if x.length < 10 ∨ x.take 10 ≠ magic then (noH, 50)
    else if endOf (s7 (x.drop 10) 0).1 (s7 (x.drop 10) 0).2.1 ≠ 0 ∨ 1 < (s5 (x.drop 10) 0).2.2 ∨ (fld (x.drop 10) 0).right = false then (noH, 50)
    else (fld (x.drop 10) 0, 0)
/-- The document's. -/
def decR (b : List UInt8) : Hd × Int :=
  match opened b with
  | none => (noH, 51)
  | some x =>
    if endOf (s7 (tk x 0 10 false).1 (tk x 0 10 false).2.1).1 (s7 (tk x 0 10 false).1 (tk x 0 10 false).2.1).2.1 ≠ 0 ∨ (fld (tk x 0 10 false).1 (tk x 0 10 false).2.1).right = false ∨ sealed (fld (tk x 0 10 false).1 (tk x 0 10 false).2.1).text ≠ b then (noH, 50)
    else (fld (tk x 0 10 false).1 (tk x 0 10 false).2.1, 0)

theorem end_zero' {l : List UInt8} {e : Int} (h : endOf l e = 0) : e = 0 ∧ l = [] := by
  unfold endOf at h
  split at h
  · cases h
  · rename_i hn
    refine ⟨h, ?_⟩
    cases l with
    | nil => rfl
    | cons x l => exact absurd ⟨h, by simp⟩ hn

theorem nm_ok' {l : List UInt8} {e : Int} {W : Nat} {W' : Int} {x : List UInt8 × Int × Nat} (hW : W' = W) (hw : rt W = true) (hx : nm l e W' = x) (h : x.2.1 = 0) : e = 0 ∧ l = be W x.2.2 ++ x.1 := by
  subst hW hx
  exact ⟨(nm_ok hw h).1, (nm_ok hw h).2.1⟩
theorem tx_ok' {l : List UInt8} {e : Int} {x : List UInt8 × Int × List UInt8} (hx : tx l e 1 = x) (h : x.2.1 = 0) : e = 0 ∧ l = be 1 x.2.2.length ++ x.2.2 ++ x.1 := by
  subst hx
  exact tx_ok h
theorem nm_put' (W x : Nat) {W' : Int} (hW : W' = W) (rest : List UInt8) (hw : rt W = true) (hx : (x : Int) < lim W) {l : List UInt8} (hl : l = be W x ++ rest) : nm l 0 W' = (rest, 0, x) := by
  subst hW hl
  exact nm_put W x rest hw hx

theorem s7_zero {l : List UInt8} {e : Int} (h : (s7 l e).2.1 = 0) : e = 0 ∧
    l = be 1 (s1 l e).2.2 ++ be 2 (s2 l e).2.2 ++ (be 1 (s3 l e).2.2.length ++ (s3 l e).2.2) ++ be 8 (s4 l e).2.2 ++ be 1 (s5 l e).2.2 ++ be 1 (s7 l e).2.2.length ++ putB 2 (s7 l e).2.2 ++ (s7 l e).1 := by
  have h7 : s7 l e = rk (s6 l e).2.2 (s6 l e).1 (s6 l e).2.1 := by unfold s7; rfl
  have h6 : nm (s5 l e).1 (s5 l e).2.1 1 = s6 l e := by unfold s6; rfl
  have h5 : nm (s4 l e).1 (s4 l e).2.1 1 = s5 l e := by unfold s5; rfl
  have h4 : nm (s3 l e).1 (s3 l e).2.1 8 = s4 l e := by unfold s4; rfl
  have h3 : tx (s2 l e).1 (s2 l e).2.1 1 = s3 l e := by unfold s3; rfl
  have h2 : nm (s1 l e).1 (s1 l e).2.1 2 = s2 l e := by unfold s2; rfl
  have h1 : nm l e 1 = s1 l e := by unfold s1; rfl
  rw [h7] at h ⊢
  generalize s6 l e = x6 at *
  generalize s5 l e = x5 at *
  generalize s4 l e = x4 at *
  generalize s3 l e = x3 at *
  generalize s2 l e = x2 at *
  generalize s1 l e = x1 at *
  obtain ⟨a7, c7⟩ := rk_ok x6.2.2 x6.1 x6.2.1 h
  have hk := rk_length x6.2.2 x6.1 x6.2.1
  generalize rk x6.2.2 x6.1 x6.2.1 = x7 at *
  obtain ⟨a6, c6⟩ := nm_ok' (W := 1) rfl (by decide) h6 a7
  obtain ⟨a5, c5⟩ := nm_ok' (W := 1) rfl (by decide) h5 a6
  obtain ⟨a4, c4⟩ := nm_ok' (W := 8) rfl (by decide) h4 a5
  obtain ⟨a3, c3⟩ := tx_ok' h3 a4
  obtain ⟨a2, c2⟩ := nm_ok' (W := 2) rfl (by decide) h2 a3
  obtain ⟨a1, c1⟩ := nm_ok' (W := 1) rfl (by decide) h1 a2
  refine ⟨a1, ?_⟩
  rw [hk]
  rw [c2, c3, c4, c5, c6, c7] at c1
  simp only [← List.append_assoc] at c1 ⊢
  exact c1

theorem text_drop (h : Hd) : h.text = magic ++ (be 1 h.b.toNat ++ be 2 h.z.toNat ++ (be 1 h.n.length ++ h.n) ++ be 8 h.g.toNat ++ be 1 (one01 h.c) ++ be 1 h.p.length ++ putB 2 h.p) := by
  unfold Hd.text
  simp only [← List.append_assoc]
  rfl
/-- What is read of a right head's text is the head. -/
theorem fld_text {h : Hd} (hr : h.right = true) : s7 (h.text.drop 10) 0 = ([], 0, h.p) ∧ fld (h.text.drop 10) 0 = h ∧ (s5 (h.text.drop 10) 0).2.2 = one01 h.c := by
  obtain ⟨q1, q2, q3, q4, q5, q6, q7, q8, q9⟩ := h.right_of hr
  obtain ⟨l, hl⟩ : ∃ l, l = h.text.drop 10 := ⟨_, rfl⟩
  have hl2 : l = be 1 h.b.toNat ++ (be 2 h.z.toNat ++ (be 1 h.n.length ++ h.n ++ (be 8 h.g.toNat ++ (be 1 (one01 h.c) ++ (be 1 h.p.length ++ (putB 2 h.p ++ [])))))) := by
    rw [hl, text_drop, List.drop_left' (show magic.length = 10 from rfl)]
    simp only [List.append_assoc, List.append_nil]
  rw [← hl]
  obtain ⟨r6, e6⟩ : ∃ r, r = putB 2 h.p ++ [] := ⟨_, rfl⟩
  obtain ⟨r5, e5⟩ : ∃ r, r = be 1 h.p.length ++ r6 := ⟨_, rfl⟩
  obtain ⟨r4, e4⟩ : ∃ r, r = be 1 (one01 h.c) ++ r5 := ⟨_, rfl⟩
  obtain ⟨r3, e3⟩ : ∃ r, r = be 8 h.g.toNat ++ r4 := ⟨_, rfl⟩
  obtain ⟨r2, e2⟩ : ∃ r, r = be 1 h.n.length ++ h.n ++ r3 := ⟨_, rfl⟩
  obtain ⟨r1, e1⟩ : ∃ r, r = be 2 h.z.toNat ++ r2 := ⟨_, rfl⟩
  rw [← e6, ← e5, ← e4, ← e3, ← e2, ← e1] at hl2
  have k1 : s1 l 0 = (r1, 0, h.b.toNat) := by
    unfold s1
    exact nm_put' 1 h.b.toNat rfl _ (by decide) (by show _ < (256 : Int); omega) hl2
  have k2 : s2 l 0 = (r2, 0, h.z.toNat) := by
    unfold s2
    rw [k1]
    exact nm_put' 2 h.z.toNat rfl _ (by decide) (by show _ < (65536 : Int); omega) e1
  have k3 : s3 l 0 = (r3, 0, h.n) := by
    unfold s3
    rw [k2]
    show tx r2 0 1 = _
    rw [e2]
    exact tx_put h.n _ (by omega)
  have k4 : s4 l 0 = (r4, 0, h.g.toNat) := by
    unfold s4
    rw [k3]
    exact nm_put' 8 h.g.toNat rfl _ (by decide) (by show _ < (4611686018427387904 : Int); omega) e3
  have k5 : s5 l 0 = (r5, 0, one01 h.c) := by
    unfold s5
    rw [k4]
    exact nm_put' 1 (one01 h.c) rfl _ (by decide) (by show _ < (256 : Int); unfold one01; split <;> decide) e4
  have k6 : s6 l 0 = (r6, 0, h.p.length) := by
    unfold s6
    rw [k5]
    exact nm_put' 1 h.p.length rfl _ (by decide) (by show _ < (256 : Int); omega) e5
  have k7 : s7 l 0 = ([], 0, h.p) := by
    unfold s7
    rw [k6]
    show rk h.p.length r6 0 = _
    rw [e6]
    exact rk_put h.p [] q9
  refine ⟨k7, ?_, by rw [k5]⟩
  unfold fld
  rw [k1, k2, k3, k4, k5, k7]
  simp only
  obtain ⟨b, z, n, g, c, p⟩ := h
  simp only at q1 q3 q6 ⊢
  rw [show ((b.toNat : Nat) : Int) = b by omega, show ((z.toNat : Nat) : Int) = z by omega, show ((g.toNat : Nat) : Int) = g by omega]
  rw [show decide (one01 c = 1) = c by cases c <;> rfl]

/-- A head that was read to its end, and whose byte is 0 or 1, is written as what was read. -/
theorem text_fld {l : List UInt8} (h : endOf (s7 l 0).1 (s7 l 0).2.1 = 0) (hc : (s5 l 0).2.2 ≤ 1) : (fld l 0).text = magic ++ l := by
  obtain ⟨h1, h2⟩ := end_zero' h
  obtain ⟨_, h3⟩ := s7_zero h1
  rw [h2, List.append_nil] at h3
  rw [text_drop]
  refine congrArg (magic ++ ·) ?_
  unfold fld
  simp only [Int.toNat_natCast]
  generalize s7 l 0 = x7 at *
  generalize s5 l 0 = x5 at *
  generalize s4 l 0 = x4 at *
  generalize s3 l 0 = x3 at *
  generalize s2 l 0 = x2 at *
  generalize s1 l 0 = x1 at *
  have hc1 : one01 (decide (x5.2.2 = 1)) = x5.2.2 := by
    unfold one01
    by_cases hh : x5.2.2 = 1
    · simp [hh]
    · have : x5.2.2 = 0 := by omega
      rw [this]
      rfl
  rw [hc1]
  exact h3.symm
theorem sealed_inj {a b : List UInt8} (h : sealed a = sealed b) : a = b := by
  have h1 := opened_sealed a
  rw [h, opened_sealed] at h1
  injection h1 with h1
  exact h1.symm

theorem ite_two {α : Type} {p q r : Prop} [Decidable p] [Decidable q] [Decidable r] (a b : α) (h : p ↔ (q ∨ r)) : (if p then a else b) = (if q then a else if r then a else b) := by
  by_cases hq : q
  · rw [if_pos (h.2 (.inl hq)), if_pos hq]
  · by_cases hr : r
    · rw [if_pos (h.2 (.inr hr)), if_neg hq, if_pos hr]
    · rw [if_neg (fun hp => (h.1 hp).elim hq hr), if_neg hq, if_neg hr]

theorem decR_eq (b : List UInt8) : decR b = decH b := by
  unfold decR decH
  cases ho : opened b with
  | none => rfl
  | some x =>
    have hb := opened_some ho
    simp only
    by_cases hl : x.length < 10
    · have ht : tk x 0 10 false = (x, 10, []) := by
        unfold tk
        rw [if_neg (by simp), if_neg (by simp), if_pos (by omega)]
      have h7 : endOf (s7 x 10).1 (s7 x 10).2.1 ≠ 0 := fun h => by
        have := (s7_zero (end_zero' h).1).1
        cases this
      rw [ht]
      simp only
      rw [if_pos (Or.inl h7), if_pos (Or.inl hl)]
    · have ht : tk x 0 10 false = (x.drop 10, 0, x.take 10) := by
        unfold tk
        rw [if_neg (by simp), if_neg (by simp), if_neg (by omega)]
        rfl
      rw [ht]
      simp only
      refine ite_two _ _ ⟨fun h => ?_, fun h => ?_⟩
      · by_cases hm : x.take 10 = magic
        · refine .inr ?_
          by_cases he : endOf (s7 (x.drop 10) 0).1 (s7 (x.drop 10) 0).2.1 = 0
          · by_cases hc : (s5 (x.drop 10) 0).2.2 ≤ 1
            · have htx := text_fld he hc
              have htb : sealed (fld (x.drop 10) 0).text = b := by
                rw [htx, ← hm, List.take_append_drop]
                exact hb
              rcases h with h | h | h
              · exact absurd he h
              · exact .inr (.inr h)
              · exact absurd htb h
            · exact .inr (.inl (by omega))
          · exact .inl he
        · exact .inl (.inr hm)
      · cases hr : (fld (x.drop 10) 0).right
        · exact .inr (.inl rfl)
        · by_cases hs : sealed (fld (x.drop 10) 0).text = b
          · have h1 : (fld (x.drop 10) 0).text = x := sealed_inj (hs.trans hb.symm)
            have h2 := (fld_text hr).2.2
            rw [h1] at h2
            have h3 : x.take 10 = magic := by rw [← h1, text_drop, List.take_left' (show magic.length = 10 from rfl)]
            rw [hr] at h
            rcases h with (h | h) | h | h | h
            · exact absurd h hl
            · exact absurd h3 h
            · exact .inl h
            · unfold one01 at h2
              split at h2 <;> omega
            · cases h
          · exact .inr (.inr hs)

/-- What was written is read. -/
theorem decH_text {h : Hd} (hr : h.right = true) : decH (sealed h.text) = (h, 0) := by
  obtain ⟨k1, k2, k3⟩ := fld_text hr
  unfold decH
  rw [opened_sealed]
  simp only
  have hl : h.text.take 10 = magic := by rw [text_drop, List.take_left' (show magic.length = 10 from rfl)]
  have hlen : ¬ h.text.length < 10 := by
    have := congrArg List.length hl
    rw [List.length_take, show magic.length = 10 from rfl] at this
    omega
  rw [if_neg (fun hh => hh.elim hlen (fun hh => hh hl)), k1, k2, k3, hr, if_neg]
  rintro (h | h | h)
  · exact h rfl
  · unfold one01 at h
    split at h <;> omega
  · cases h
theorem decH_ok {b : List UInt8} (h : (decH b).2 = 0) : (decH b).1.right = true ∧ sealed (decH b).1.text = b := by
  rw [← decR_eq] at h ⊢
  unfold decR at h ⊢
  cases ho : opened b with
  | none => rw [ho] at h; cases h
  | some x =>
    rw [ho] at h
    simp only at h ⊢
    split at h
    · cases h
    · rename_i hn
      rw [if_neg hn]
      simp only [not_or, Bool.not_eq_false, ne_eq] at hn
      exact ⟨hn.2.1, Classical.not_not.1 hn.2.2⟩
end Go.Proofs.Ytbljacafmkdlmaa

/- Heads and parts, joined and parted, as data: plain laws. No condition. -/
namespace Go.Proofs.Ytbljacafmkdlmaa
set_option maxRecDepth 100000
set_option linter.unusedVariables false

def withP (h : Hd) (ps : List (List UInt8)) : Hd := { h with p := ps.map fun x => (x.length : Int) }
def joinP (h : Hd) (ps : List (List UInt8)) : List UInt8 × Int :=
  if (withP h ps).right then (be 2 (sealed (withP h ps).text).length ++ sealed (withP h ps).text ++ ps.flatten, 0) else ([], 50)

/-- So many parts, cut off the front; none: one does not fit. -/
def cutN (ns : List Int) (r : List UInt8) : Nat → Option (List (List UInt8) × List UInt8)
  | 0 => some ([], r)
  | k + 1 => match cutN ns r k with
    | none => none
    | some q => if (q.2.length : Int) < ns.getD k 0 then none else some (q.1 ++ [q.2.take (ns.getD k 0).toNat], q.2.drop (ns.getD k 0).toNat)
theorem cutN_none {ns : List Int} {r : List UInt8} {k : Nat} (h : cutN ns r k = none) : ∀ j, cutN ns r (k + j) = none
  | 0 => h
  | j + 1 => by
    show (match cutN ns r (k + j) with | none => none | some q => _) = none
    rw [cutN_none h j]
theorem cutN_length {ns : List Int} {r : List UInt8} : ∀ {k : Nat} {q : List (List UInt8) × List UInt8}, cutN ns r k = some q → q.1.length = k ∧ q.2.length ≤ r.length
  | 0, q, h => by
    injection h with h
    subst h
    exact ⟨rfl, Nat.le_refl _⟩
  | k + 1, q, h => by
    unfold cutN at h
    cases hc : cutN ns r k with
    | none => rw [hc] at h; cases h
    | some p =>
      rw [hc] at h
      simp only at h
      obtain ⟨h1, h2⟩ := cutN_length hc
      split at h
      · cases h
      · injection h with h
        subst h
        simp only [List.length_append, List.length_singleton, List.length_drop]
        omega
def splitP (b : List UInt8) : Hd × List (List UInt8) × Int :=
  if (tx b 0 2).2.1 ≠ 0 then (noH, [], 131)
  else if (decH (tx b 0 2).2.2).2 ≠ 0 then (noH, [], (decH (tx b 0 2).2.2).2)
  else match cutN (decH (tx b 0 2).2.2).1.p (tx b 0 2).1 (decH (tx b 0 2).2.2).1.p.length with
    | none => (noH, [], 131)
    | some q => if q.2 = [] then ((decH (tx b 0 2).2.2).1, q.1, 0) else (noH, [], 131)
end Go.Proofs.Ytbljacafmkdlmaa
