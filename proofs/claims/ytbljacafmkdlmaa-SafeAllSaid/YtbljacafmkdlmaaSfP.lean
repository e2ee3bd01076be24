/- What is saved in a store, as data: plain laws. No program in sight. Conditions: where a bound is named. -/
import Derived.Test.YtbljacafmkdlmaaStP
namespace Go.Proofs.Ytbljacafmkdlmaa

inductive SOp where
  | flush : SOp
  | write : Int → List UInt8 → SOp
def doS (s : St) : SOp → St × Int
  | .flush => (doF s, 0)
  | .write a b => doW s a b
theorem doS_ok {s : St} (h : s.OK) (o : SOp) : (doS s o).1.OK := by
  cases o with
  | flush => exact h.flush
  | write a b => exact h.write a b

def areaN (n : Int) : Nat := (n - 2).toNat / 2
def markB (s : St) (k : Nat) : List UInt8 := (rdS s (k : Int) 1).1
def bodyB (s : St) (k : Nat) : List UInt8 := (rdS s ((2 + k * areaN s.n : Nat) : Int) (areaN s.n : Int)).1
def u4 (x : List UInt8) (i : Nat) : Nat := un ((x.drop (4 * i)).take 4)
/-- What is told of a copy's bytes: its mark, opened. -/
def copOf (n : Int) (body x : List UInt8) : List UInt8 × Nat :=
  if u4 x 0 < 1 ∨ 1073741824 < u4 x 0 ∨ 16 * areaN n < u4 x 1 then ([], 0)
  else if adler (body.take (u4 x 1)) ≠ u4 x 2 then ([], 0)
  else (body.take (u4 x 1), u4 x 0)
/-- A copy: what is saved, and its generation; 0: it is not good. -/
def cop (s : St) (k : Nat) : List UInt8 × Nat :=
  match opened (markB s k) with
  | none => ([], 0)
  | some x => copOf s.n (bodyB s k) x
theorem cop_zero {s : St} {k : Nat} (h : (cop s k).2 = 0) : cop s k = ([], 0) := by
  revert h
  unfold cop
  cases opened (markB s k) with
  | none => intro _; rfl
  | some x =>
    simp only
    unfold copOf
    split
    · intro _; rfl
    split
    · intro _; rfl
    · intro h
      simp only at h
      omega
theorem cop_le (s : St) (k : Nat) : (cop s k).2 ≤ 1073741824 := by
  unfold cop
  cases opened (markB s k) with
  | none => exact Nat.zero_le _
  | some x =>
    simp only
    unfold copOf
    split
    · exact Nat.zero_le _
    split
    · exact Nat.zero_le _
    · simp only; omega

/-- The newest copy's number, what it has, its generation. -/
def newestP (s : St) : Int × List UInt8 × Nat :=
  if (cop s 0).2 < (cop s 1).2 then (1, cop s 1) else if 0 < (cop s 0).2 then (0, cop s 0) else (-1, [], 0)
def kOf (s : St) : Nat := if (newestP s).1 = 0 then 1 else 0
def loadP (s : St) : List UInt8 × Nat × Int := if (newestP s).1 < 0 then ([], 0, 130) else ((newestP s).2.1, (newestP s).2.2, 0)
def pad16 (x : List UInt8) : List UInt8 := (x ++ List.replicate 16 0).take 16
theorem pad16_length (x : List UInt8) : (pad16 x).length = 16 := by
  unfold pad16
  rw [List.length_take, List.length_append, List.length_replicate]
  omega
def dataOps (a : Int) (b : List UInt8) : Nat → List SOp
  | 0 => []
  | j + 1 => dataOps a b j ++ [.write (a + j) (pad16 (b.drop (16 * j)))]
theorem dataOps_length (a : Int) (b : List UInt8) : ∀ j, (dataOps a b j).length = j
  | 0 => rfl
  | j + 1 => by unfold dataOps; rw [List.length_append, dataOps_length a b j]; rfl
def markX (g : Nat) (b : List UInt8) : List UInt8 := be 4 g ++ be 4 b.length ++ be 4 (adler b)
theorem markX_length (g : Nat) (b : List UInt8) : (markX g b).length = 12 := by
  unfold markX
  rw [List.length_append, List.length_append, be_length, be_length, be_length]
def nch (b : List UInt8) : Nat := (b.length + 15) / 16
def opsOf (n : Int) (k g : Nat) (b : List UInt8) : List SOp :=
  dataOps ((2 + k * areaN n : Nat) : Int) b (nch b) ++ [.flush, .write (k : Int) (sealed (markX g b)), .flush]
def beginP (s : St) (b : List UInt8) : List SOp × Int :=
  if 16 * areaN s.n < b.length then ([], 1) else if 1073741824 ≤ (newestP s).2.2 then ([], 131) else (opsOf s.n (kOf s) ((newestP s).2.2 + 1) b, 0)

/-- All calls, up to the first that fails. -/
def exec : List SOp → St → St × Int
  | [], s => (s, 0)
  | o :: r, s => if (doS s o).2 = 0 then exec r (doS s o).1 else ((doS s o).1, (doS s o).2)
theorem exec_append (a b : List SOp) (s : St) : exec (a ++ b) s = if (exec a s).2 = 0 then exec b (exec a s).1 else exec a s := by
  induction a generalizing s with
  | nil => rw [List.nil_append]; exact (if_pos rfl).symm
  | cons o a ih =>
    rw [List.cons_append]
    show (if (doS s o).2 = 0 then exec (a ++ b) (doS s o).1 else ((doS s o).1, (doS s o).2)) = _
    by_cases h : (doS s o).2 = 0
    · have e : exec (o :: a) s = exec a (doS s o).1 := if_pos h
      rw [if_pos h, ih, e]
    · have e : exec (o :: a) s = ((doS s o).1, (doS s o).2) := if_neg h
      rw [if_neg h, e]
      simp only
      rw [if_neg h]
theorem exec_ok {s : St} (h : s.OK) (l : List SOp) : (exec l s).1.OK := by
  induction l generalizing s with
  | nil => exact h
  | cons o l ih =>
    unfold exec
    split
    · exact ih (doS_ok h o)
    · exact doS_ok h o

/-- A saver: the store, the calls that are left, the last error. One step. -/
def stepV (t : St × List SOp × Int) : St × List SOp × Int :=
  match t.2.1 with
  | [] => t
  | o :: r => if (doS t.1 o).2 = 0 then ((doS t.1 o).1, r, 0) else ((doS t.1 o).1, [], (doS t.1 o).2)
def stepsV : Nat → St × List SOp × Int → St × List SOp × Int
  | 0, t => t
  | j + 1, t => stepV (stepsV j t)
theorem stepsV_nil (s : St) (e : Int) : ∀ j, stepsV j (s, [], e) = (s, [], e)
  | 0 => rfl
  | j + 1 => by unfold stepsV; rw [stepsV_nil s e j]; rfl
theorem stepsV_front (t : St × List SOp × Int) : ∀ j, stepsV (j + 1) t = stepsV j (stepV t)
  | 0 => rfl
  | j + 1 => by
    show stepV (stepsV (j + 1) t) = stepV (stepsV j (stepV t))
    rw [stepsV_front t j]
theorem stepsV_all (l : List SOp) (s : St) : stepsV l.length (s, l, 0) = ((exec l s).1, [], (exec l s).2) := by
  induction l generalizing s with
  | nil => rfl
  | cons o l ih =>
    rw [List.length_cons, stepsV_front]
    show stepsV l.length (if (doS s o).2 = 0 then ((doS s o).1, l, 0) else ((doS s o).1, [], (doS s o).2)) = ((if (doS s o).2 = 0 then exec l (doS s o).1 else ((doS s o).1, (doS s o).2)).1, [], (if (doS s o).2 = 0 then exec l (doS s o).1 else ((doS s o).1, (doS s o).2)).2)
    by_cases h : (doS s o).2 = 0
    · rw [if_pos h, if_pos h]; exact ih _
    · rw [if_neg h, if_neg h]; exact stepsV_nil _ _ _
theorem stepsV_left (l : List SOp) (s : St) : ∀ j, (stepsV j (s, l, 0)).2.1.length ≤ l.length - j
  | 0 => Nat.le_refl _
  | j + 1 => by
    have ih := stepsV_left l s j
    show (stepV (stepsV j (s, l, 0))).2.1.length ≤ _
    obtain ⟨t, ht⟩ : ∃ t, t = stepsV j (s, l, 0) := ⟨_, rfl⟩
    rw [← ht] at ih ⊢
    obtain ⟨s', l', e'⟩ := t
    cases l' with
    | nil => exact Nat.zero_le _
    | cons o r =>
      unfold stepV
      simp only at ih ⊢
      rw [List.length_cons] at ih
      split
      · simp only; omega
      · exact Nat.zero_le _

/-! ## a write of one sector -/
theorem doW16 {s : St} {a : Int} {b : List UInt8} (hb : b.length = 16) (ha : 0 ≤ a ∧ a < s.n) :
    doW s a b = if s.room < ((usedN (s.l ++ [(a, b)]) s.n.toNat : Nat) : Int) ∧ s.used < usedN (s.l ++ [(a, b)]) s.n.toNat then (s, 30) else ({ s with l := s.l ++ [(a, b)] }, 0) := by
  have h1 : b.length / 16 = 1 := by omega
  have h2 : chs a b 1 = [(a, b)] := by
    show [] ++ [(a + ((0 : Nat) : Int), (b.drop (16 * 0)).take 16)] = _
    rw [List.nil_append, Nat.mul_zero, List.drop_zero, List.take_of_length_le (by omega), show a + ((0 : Nat) : Int) = a by omega]
  have h3 : insideB s.n a ((1 : Nat) : Int) = true := by
    unfold insideB
    simp only [Bool.and_eq_true, decide_eq_true_eq]
    omega
  unfold doW
  rw [if_neg (by omega), h1, h3, if_neg (by simp), h2]
/-- What one write of a sector turns. -/
theorem write16 {s : St} (hs : s.OK) {a : Int} {b : List UInt8} (hb : b.length = 16) (ha : 0 ≤ a ∧ a < s.n) :
    (doW s a b).1.n = s.n ∧ (doW s a b).1.room = s.room ∧ (∀ x, x ≠ a → sect (doW s a b).1.l x = sect s.l x) ∧ ((doW s a b).2 = 0 ∨ (doW s a b).2 = 30) ∧ (s.n ≤ s.room → (doW s a b).2 = 0) ∧ ((doW s a b).2 = 0 → sect (doW s a b).1.l a = b) ∧ (¬ (doW s a b).2 = 0 → (doW s a b).1 = s) := by
  rw [doW16 hb ha]
  split
  · rename_i h
    refine ⟨rfl, rfl, fun _ _ => rfl, .inr rfl, fun hr => ?_, fun h0 => by simp at h0, fun _ => rfl⟩
    have h1 := usedN_le (s.l ++ [(a, b)]) s.n.toNat
    have h2 := hs.n0
    omega
  · refine ⟨rfl, rfl, fun x hx => ?_, .inl rfl, fun _ => rfl, fun _ => ?_, fun h0 => absurd rfl h0⟩
    · unfold sect
      simp only
      rw [lastW_snoc, if_neg (fun e => hx e.symm)]
    · unfold sect
      simp only
      rw [lastW_snoc, if_pos rfl]
      rfl

/-- What is written of the bytes. -/
theorem exec_data {s : St} (hs : s.OK) (a : Int) (b : List UInt8) (h0 : 0 ≤ a) : ∀ j : Nat, a + j ≤ s.n →
    (exec (dataOps a b j) s).1.n = s.n ∧ (exec (dataOps a b j) s).1.room = s.room ∧ (∀ x, x < a ∨ a + j ≤ x → sect (exec (dataOps a b j) s).1.l x = sect s.l x) ∧ ((exec (dataOps a b j) s).2 = 0 ∨ (exec (dataOps a b j) s).2 = 30) ∧
      (s.n ≤ s.room → (exec (dataOps a b j) s).2 = 0) ∧ ((exec (dataOps a b j) s).2 = 0 → ∀ i : Nat, i < j → sect (exec (dataOps a b j) s).1.l (a + i) = pad16 (b.drop (16 * i)))
  | 0, _ => ⟨rfl, rfl, fun _ _ => rfl, .inl rfl, fun _ => rfl, fun _ i hi => by omega⟩
  | j + 1, hj => by
    obtain ⟨h1, h2, h3, h4, h5, h6⟩ := exec_data hs a b h0 j (by omega)
    have hok := exec_ok hs (dataOps a b j)
    have e : exec (dataOps a b (j + 1)) s = if (exec (dataOps a b j) s).2 = 0 then exec [.write (a + j) (pad16 (b.drop (16 * j)))] (exec (dataOps a b j) s).1 else exec (dataOps a b j) s := exec_append _ _ _
    rw [e]
    obtain ⟨⟨s1, e1⟩, hr⟩ : ∃ r, r = exec (dataOps a b j) s := ⟨_, rfl⟩
    rw [← hr] at h1 h2 h3 h4 h5 h6 hok ⊢
    simp only at h1 h2 h3 h4 h5 h6 hok ⊢
    by_cases he : e1 = 0
    · rw [if_pos he]
      obtain ⟨k1, k2, k3, k4, k5, k6, k7⟩ := write16 hok (pad16_length (b.drop (16 * j))) (a := a + j) ⟨by omega, by omega⟩
      have e2 : exec [.write (a + j) (pad16 (b.drop (16 * j)))] s1 = doW s1 (a + j) (pad16 (b.drop (16 * j))) := by
        show (if (doW s1 (a + j) (pad16 (b.drop (16 * j)))).2 = 0 then ((doW s1 (a + j) (pad16 (b.drop (16 * j)))).1, (0 : Int)) else _) = _
        split
        · rename_i h; exact Prod.ext rfl h.symm
        · rfl
      rw [e2]
      refine ⟨k1.trans h1, k2.trans h2, fun x hx => ?_, k4, fun hr => k5 (by rw [h1, h2]; exact hr), fun hz i hi => ?_⟩
      · rw [k3 x (by omega), h3 x (by omega)]
      · by_cases hij : i = j
        · subst hij; exact k6 hz
        · rw [k3 _ (by omega)]
          exact h6 he i (by omega)
    · rw [if_neg he]
      exact ⟨h1, h2, fun x hx => h3 x (by omega), h4, h5, fun hz => absurd hz he⟩

/-! ## what is read -/
theorem sect_len' {l : List Wrt} (h : ∀ x ∈ l, x.2.length = 16) (a : Int) : (sect l a).length = 16 := by
  unfold sect
  cases hx : lastW l a with
  | none => rfl
  | some y => exact h _ (lastW_mem hx)
theorem cat_add' (l : List Wrt) (a : Int) (k : Nat) : ∀ m : Nat, cat l a (k + m) = cat l a k ++ cat l (a + k) m
  | 0 => by show _ = _ ++ []; rw [List.append_nil]; rfl
  | m + 1 => by
    show cat l a (k + m) ++ sect l (a + ((k + m : Nat) : Int)) = cat l a k ++ (cat l (a + k) m ++ sect l (a + k + m))
    rw [cat_add' l a k m, List.append_assoc, show a + ((k + m : Nat) : Int) = a + k + m by omega]
theorem cat_congr' {l l' : List Wrt} {a : Int} : ∀ {k : Nat}, (∀ j : Nat, j < k → sect l (a + j) = sect l' (a + j)) → cat l a k = cat l' a k
  | 0, _ => rfl
  | k + 1, h => by
    show cat l a k ++ _ = cat l' a k ++ _
    rw [cat_congr' (fun j hj => h j (by omega)), h k (by omega)]
theorem cat_len' {l : List Wrt} (h : ∀ x ∈ l, x.2.length = 16) (a : Int) : ∀ k : Nat, (cat l a k).length = 16 * k
  | 0 => rfl
  | k + 1 => by
    show (cat l a k ++ _).length = _
    rw [List.length_append, cat_len' h a k, sect_len' h]
    omega
/-- Whole sectors of bytes. -/
theorem cat_whole {l : List Wrt} {a : Int} {b : List UInt8} {m : Nat} (h : ∀ i : Nat, i < m → sect l (a + i) = pad16 (b.drop (16 * i))) : ∀ j : Nat, j ≤ m → 16 * j ≤ b.length → cat l a j = b.take (16 * j)
  | 0, _, _ => rfl
  | j + 1, hj, hb => by
    show cat l a j ++ sect l (a + j) = _
    rw [cat_whole h j (by omega) (by omega), h j (by omega)]
    have e : pad16 (b.drop (16 * j)) = (b.drop (16 * j)).take 16 := by
      unfold pad16
      rw [List.take_append_of_le_length (by rw [List.length_drop]; omega)]
    rw [e, Nat.mul_succ, List.take_add]
theorem cat_bytes {l : List Wrt} (h16 : ∀ x ∈ l, x.2.length = 16) {a : Int} {b : List UInt8} (h : ∀ i : Nat, i < nch b → sect l (a + i) = pad16 (b.drop (16 * i))) {M : Nat} (hM : nch b ≤ M) : (cat l a M).take b.length = b := by
  have hq : 16 * (b.length / 16) ≤ b.length := by omega
  have hn : b.length / 16 ≤ nch b := by unfold nch; omega
  have h1 := cat_whole h (b.length / 16) hn hq
  by_cases hr : b.length % 16 = 0
  · have e : 16 * (b.length / 16) = b.length := by omega
    rw [show M = b.length / 16 + (M - b.length / 16) by omega, cat_add', List.take_append_of_le_length (by rw [cat_len' h16]; omega), h1, e, List.take_take, Nat.min_self, List.take_of_length_le (Nat.le_refl _)]
  · have hn2 : nch b = b.length / 16 + 1 := by unfold nch; omega
    have e2 : cat l a (b.length / 16 + 1) = b.take (16 * (b.length / 16)) ++ pad16 (b.drop (16 * (b.length / 16))) := by
      show cat l a (b.length / 16) ++ sect l (a + ((b.length / 16 : Nat) : Int)) = _
      rw [h1, h _ (by omega)]
    rw [show M = (b.length / 16 + 1) + (M - (b.length / 16 + 1)) by omega, cat_add', List.take_append_of_le_length (by rw [cat_len' h16]; omega), e2]
    have hl : (b.take (16 * (b.length / 16))).length = 16 * (b.length / 16) := by rw [List.length_take]; omega
    rw [List.take_append, hl, List.take_take, Nat.min_eq_right hq]
    unfold pad16
    rw [List.take_take, Nat.min_eq_left (by omega), List.take_append_of_le_length (by rw [List.length_drop]; omega), List.take_of_length_le (l := b.drop (16 * (b.length / 16))) (by rw [List.length_drop]; exact Nat.le_refl _), List.take_append_drop]

theorem markB_in {s : St} {k : Nat} (h : (k : Int) < s.n) : markB s k = sect s.l k := by
  have hi : insideB s.n (k : Int) 1 = true := by
    unfold insideB
    simp only [Bool.and_eq_true, decide_eq_true_eq]
    omega
  unfold markB rdS
  rw [if_neg (by omega), hi, if_neg (by simp)]
  show cat s.l k 1 = _
  show [] ++ sect s.l ((k : Int) + ((0 : Nat) : Int)) = _
  rw [List.nil_append, show (k : Int) + ((0 : Nat) : Int) = k by omega]
theorem bodyB_in {s : St} {k : Nat} (hk : k < 2) (h2 : 2 ≤ s.n) : bodyB s k = cat s.l ((2 + k * areaN s.n : Nat) : Int) (areaN s.n) := by
  have hi : insideB s.n ((2 + k * areaN s.n : Nat) : Int) (areaN s.n : Int) = true := by
    unfold insideB
    simp only [Bool.and_eq_true, decide_eq_true_eq]
    have hA : 2 * areaN s.n ≤ (s.n - 2).toNat := by unfold areaN; omega
    obtain rfl | rfl : k = 0 ∨ k = 1 := by omega
    · omega
    · omega
  unfold bodyB rdS
  rw [if_neg (by omega), hi, if_neg (by simp)]
  rfl
theorem cop_congr {s s' : St} {k : Nat} (hk : k < 2) (h2 : 2 ≤ s.n) (hn : s'.n = s.n) (hm : sect s'.l (k : Int) = sect s.l k) (hb : ∀ x : Int, ((2 + k * areaN s.n : Nat) : Int) ≤ x → x < ((2 + k * areaN s.n : Nat) : Int) + areaN s.n → sect s'.l x = sect s.l x) : cop s' k = cop s k := by
  have e1 : markB s' k = markB s k := by rw [markB_in (by omega), markB_in (by omega), hm]
  have e2 : bodyB s' k = bodyB s k := by
    rw [bodyB_in hk (by omega), bodyB_in hk h2, hn]
    exact cat_congr' fun j hj => hb _ (by omega) (by omega)
  unfold cop
  rw [e1, e2, hn]

theorem un_part (a b c : Nat) (ha : a < 4294967296) (hb : b < 4294967296) (hc : c < 4294967296) : u4 (be 4 a ++ be 4 b ++ be 4 c) 0 = a ∧ u4 (be 4 a ++ be 4 b ++ be 4 c) 1 = b ∧ u4 (be 4 a ++ be 4 b ++ be 4 c) 2 = c := by
  have la := be_length 4 a
  have lb := be_length 4 b
  have lc := be_length 4 c
  refine ⟨?_, ?_, ?_⟩
  · unfold u4
    rw [Nat.mul_zero, List.drop_zero, List.append_assoc, List.take_left' la, un_be 4 a (by omega)]
  · unfold u4
    rw [Nat.mul_one, List.append_assoc, List.drop_left' la, List.take_left' lb, un_be 4 b (by omega)]
  · unfold u4
    rw [List.drop_left' (by rw [List.length_append, la, lb]), List.take_of_length_le (by omega), un_be 4 c (by omega)]

/-- What all steps of saving leave. -/
theorem save_run {s : St} (hs : s.OK) (b : List UInt8) (k g : Nat) (hk : k < 2) (hn : 2 ≤ s.n) (hb : b.length ≤ 16 * areaN s.n) (hg : 1 ≤ g ∧ g ≤ 1073741824) :
    (exec (opsOf s.n k g b) s).1.n = s.n ∧ (exec (opsOf s.n k g b) s).1.room = s.room ∧ ((exec (opsOf s.n k g b) s).2 = 0 ∨ (exec (opsOf s.n k g b) s).2 = 30) ∧ (s.n ≤ s.room → (exec (opsOf s.n k g b) s).2 = 0) ∧
      cop (exec (opsOf s.n k g b) s).1 (1 - k) = cop s (1 - k) ∧ ((exec (opsOf s.n k g b) s).2 = 0 → cop (exec (opsOf s.n k g b) s).1 k = (b, g)) ∧ (¬ (exec (opsOf s.n k g b) s).2 = 0 → markB (exec (opsOf s.n k g b) s).1 k = markB s k) := by
  have hA : 2 * areaN s.n ≤ (s.n - 2).toNat := by unfold areaN; omega
  have hA2 : areaN s.n ≤ 2047 := by have := hs.n1; unfold areaN; omega
  have hch : nch b ≤ areaN s.n := by unfold nch; omega
  have hka : ((2 + k * areaN s.n : Nat) : Int) + areaN s.n ≤ s.n := by
    obtain rfl | rfl : k = 0 ∨ k = 1 := by omega
    · omega
    · omega
  have hkb : (((2 + (1 - k) * areaN s.n : Nat) : Int) + areaN s.n ≤ ((2 + k * areaN s.n : Nat) : Int)) ∨ (((2 + k * areaN s.n : Nat) : Int) + areaN s.n ≤ ((2 + (1 - k) * areaN s.n : Nat) : Int)) := by
    obtain rfl | rfl : k = 0 ∨ k = 1 := by omega
    · right; omega
    · left; omega
  obtain ⟨a, ha⟩ : ∃ a : Nat, a = 2 + k * areaN s.n := ⟨_, rfl⟩
  obtain ⟨a', ha'⟩ : ∃ a' : Nat, a' = 2 + (1 - k) * areaN s.n := ⟨_, rfl⟩
  have ha2 : 2 ≤ a := by omega
  have ha2' : 2 ≤ a' := by omega
  rw [← ha] at hka hkb
  rw [← ha'] at hkb
  obtain ⟨h1, h2, h3, h4, h5, h6⟩ := exec_data hs (a : Int) b (by omega) (nch b) (by omega)
  have hok := exec_ok hs (dataOps (a : Int) b (nch b))
  have e : exec (opsOf s.n k g b) s = if (exec (dataOps (a : Int) b (nch b)) s).2 = 0 then exec [.flush, .write (k : Int) (sealed (markX g b)), .flush] (exec (dataOps (a : Int) b (nch b)) s).1 else exec (dataOps (a : Int) b (nch b)) s := by
    rw [ha]
    exact exec_append _ _ _
  have hml : (sealed (markX g b)).length = 16 := by rw [sealed_length, markX_length]
  rw [e]
  clear e
  obtain ⟨⟨s1, e1⟩, hr⟩ : ∃ r, r = exec (dataOps (a : Int) b (nch b)) s := ⟨_, rfl⟩
  rw [← hr] at h1 h2 h3 h4 h5 h6 hok ⊢
  clear hr
  simp only at h1 h2 h3 h4 h5 h6 hok ⊢
  have keep : ∀ s' : St, s'.n = s.n → (∀ x : Int, x ≠ k → x < a ∨ (a : Int) + nch b ≤ x → sect s'.l x = sect s.l x) → cop s' (1 - k) = cop s (1 - k) := fun s' hn' hx => by
    refine cop_congr (by omega) hn hn' (hx _ (by omega) (by omega)) (fun x hx1 hx2 => ?_)
    rw [← ha'] at hx1 hx2
    exact hx x (by omega) (by omega)
  by_cases he : e1 = 0
  · rw [if_pos he]
    obtain ⟨s2, hs2⟩ : ∃ s2, s2 = doF s1 := ⟨_, rfl⟩
    have l2 : s2.l = s1.l := by rw [hs2]; rfl
    have n2 : s2.n = s1.n := by rw [hs2]; rfl
    have r2 : s2.room = s1.room := by rw [hs2]; rfl
    have ok2 : s2.OK := by rw [hs2]; exact hok.flush
    obtain ⟨k1, k2, k3, k4, k5, k6, k7⟩ := write16 ok2 hml (a := (k : Int)) ⟨by omega, by omega⟩
    have ok3 := ok2.write (k : Int) (sealed (markX g b))
    have e2 : exec [.flush, .write (k : Int) (sealed (markX g b)), .flush] s1 = if (doW s2 k (sealed (markX g b))).2 = 0 then (doF (doW s2 k (sealed (markX g b))).1, 0) else ((doW s2 k (sealed (markX g b))).1, (doW s2 k (sealed (markX g b))).2) := by
      rw [hs2]; rfl
    rw [e2]
    clear e2
    obtain ⟨⟨s3, e3⟩, hr3⟩ : ∃ r, r = doW s2 k (sealed (markX g b)) := ⟨_, rfl⟩
    rw [← hr3] at k1 k2 k3 k4 k5 k6 k7 ok3 ⊢
    clear hr3
    simp only at k1 k2 k3 k4 k5 k6 k7 ok3 ⊢
    have hx3 : ∀ x : Int, x ≠ k → x < a ∨ (a : Int) + nch b ≤ x → sect s3.l x = sect s.l x := fun x hxk hx => by
      rw [k3 x hxk, l2, h3 x hx]
    by_cases he3 : e3 = 0
    · rw [if_pos he3]
      refine ⟨(k1.trans n2).trans h1, (k2.trans r2).trans h2, .inl rfl, fun _ => rfl, keep (doF s3) ((k1.trans n2).trans h1) hx3, fun _ => ?_, fun h0 => absurd rfl h0⟩
      have hn3 : (doF s3).n = s.n := (k1.trans n2).trans h1
      have hl3 : (doF s3).l = s3.l := rfl
      have hm : markB (doF s3) k = sealed (markX g b) := by
        rw [markB_in (by omega), hl3]
        exact k6 he3
      have hbd : (bodyB (doF s3) k).take b.length = b := by
        rw [bodyB_in hk (by omega), hn3, ← ha, hl3]
        refine cat_bytes (fun x hx => (ok3.w x hx).2.2) (fun i hi => ?_) hch
        rw [k3 _ (by omega), l2]
        exact h6 he i hi
      have had := adler_lt b
      obtain ⟨u0, u1, u2⟩ := un_part g b.length (adler b) (by omega) (by omega) had
      unfold cop
      rw [hm, opened_sealed]
      simp only
      unfold copOf
      rw [show markX g b = be 4 g ++ be 4 b.length ++ be 4 (adler b) from rfl, u0, u1, u2, hbd, hn3, if_neg (by omega), if_neg (by simp)]
    · rw [if_neg he3]
      have hs32 := k7 he3
      refine ⟨(k1.trans n2).trans h1, (k2.trans r2).trans h2, k4, fun hr => k5 (by omega), keep s3 ((k1.trans n2).trans h1) hx3, fun h0 => absurd h0 he3, fun _ => ?_⟩
      show markB s3 k = markB s k
      rw [markB_in (by omega), markB_in (by omega), hs32, l2, h3 _ (by omega)]
  · rw [if_neg he]
    refine ⟨h1, h2, h4, h5, keep s1 h1 (fun x _ hx => h3 x hx), fun h0 => absurd h0 he, fun _ => ?_⟩
    show markB s1 k = markB s k
    rw [markB_in (by omega), markB_in (by omega), h3 _ (by omega)]

/-! ## what is told behind it -/
theorem newestP_ge (s : St) : (cop s 0).2 ≤ (newestP s).2.2 ∧ (cop s 1).2 ≤ (newestP s).2.2 := by
  unfold newestP
  split
  · simp only; omega
  split
  · simp only; omega
  · simp only; omega
theorem newestP_le (s : St) : (newestP s).2.2 ≤ 1073741824 := by
  unfold newestP
  split
  · exact cop_le s 1
  split
  · exact cop_le s 0
  · exact Nat.zero_le _
theorem kOf_lt (s : St) : kOf s < 2 := by unfold kOf; split <;> omega
theorem newest_of {s : St} {k g : Nat} {b : List UInt8} (hk : k < 2) (hc : cop s k = (b, g)) (ho : (cop s (1 - k)).2 < g) : newestP s = ((k : Int), b, g) := by
  obtain rfl | rfl : k = 0 ∨ k = 1 := by omega
  · have ho' : (cop s 1).2 < g := ho
    unfold newestP
    rw [hc]
    simp only
    rw [if_neg (by omega), if_pos (by omega)]
    rfl
  · have ho' : (cop s 0).2 < g := ho
    unfold newestP
    rw [hc]
    simp only
    rw [if_pos ho']
    rfl
theorem loadP_of {s : St} {k g : Nat} {b : List UInt8} (h : newestP s = ((k : Int), b, g)) : loadP s = (b, g, 0) := by
  unfold loadP
  rw [h]
  exact if_neg (by simp only; omega)
/-- Saving where there is room: what is told then. -/
theorem save_told {s : St} (hs : s.OK) (b : List UInt8) (hn : 2 ≤ s.n) (hb : b.length ≤ 16 * areaN s.n) (hg : (newestP s).2.2 < 1073741824) :
    (exec (beginP s b).1 s).1.n = s.n ∧ (exec (beginP s b).1 s).1.room = s.room ∧ (beginP s b).2 = 0 ∧ ((exec (beginP s b).1 s).2 = 0 ∨ (exec (beginP s b).1 s).2 = 30) ∧ (s.n ≤ s.room → (exec (beginP s b).1 s).2 = 0) ∧
      ((exec (beginP s b).1 s).2 = 0 → loadP (exec (beginP s b).1 s).1 = (b, (newestP s).2.2 + 1, 0) ∧ newestP (exec (beginP s b).1 s).1 = (((kOf s : Nat) : Int), b, (newestP s).2.2 + 1)) := by
  have hbg : beginP s b = (opsOf s.n (kOf s) ((newestP s).2.2 + 1) b, 0) := by
    unfold beginP
    rw [if_neg (by omega), if_neg (by omega)]
  rw [hbg]
  obtain ⟨h1, h2, h3, h4, h5, h6, _⟩ := save_run hs b (kOf s) ((newestP s).2.2 + 1) (kOf_lt s) hn hb (by omega)
  have hge := newestP_ge s
  refine ⟨h1, h2, rfl, h3, h4, fun h0 => ?_⟩
  have ho : (cop (exec (opsOf s.n (kOf s) ((newestP s).2.2 + 1) b) s).1 (1 - kOf s)).2 < (newestP s).2.2 + 1 := by
    rw [h5]
    have hk := kOf_lt s
    obtain e | e : 1 - kOf s = 0 ∨ 1 - kOf s = 1 := by omega
    · rw [e]; omega
    · rw [e]; omega
  have hnw := newest_of (kOf_lt s) (h6 h0) ho
  exact ⟨loadP_of hnw, hnw⟩
/-- A store that was never written. -/
theorem cop_new (n room : Int) (k : Nat) (h : k < n) : cop ⟨n, room, [], 0⟩ k = ([], 0) := by
  unfold cop
  rw [markB_in h]
  have e : opened (sect [] (k : Int)) = none := by
    show opened z16 = none
    decide
  simp only [e]
theorem newest_new (n room : Int) (h : 2 ≤ n) : newestP ⟨n, room, [], 0⟩ = (-1, [], 0) := by
  unfold newestP
  rw [cop_new n room 0 (by omega), cop_new n room 1 (by omega)]
  rfl
end Go.Proofs.Ytbljacafmkdlmaa
