/- Plain laws on bytes and sums: no program in sight. No condition. -/

namespace Go.Proofs.Ytbljacafmkdlmaa

theorem snoc_ind {α : Type} {p : List α → Prop} (h0 : p []) (h1 : ∀ l a, p l → p (l ++ [a])) (l : List α) : p l := by
  have key : ∀ m : List α, p m.reverse := by
    intro m
    induction m with
    | nil => exact h0
    | cons a m ih =>
      rw [List.reverse_cons]
      exact h1 _ _ ih
  have := key l.reverse
  rwa [List.reverse_reverse] at this

/-! ## numbers as bytes, the highest first -/
def be : Nat → Nat → List UInt8
  | 0, _ => []
  | w + 1, n => be w (n / 256) ++ [UInt8.ofNat (n % 256)]

theorem be_length : ∀ (w n : Nat), (be w n).length = w
  | 0, _ => rfl
  | w + 1, n => by simp [be, be_length w]

theorem be_at : ∀ (w n i : Nat), i < w → (be w n)[i]? = some (UInt8.ofNat (n / 256 ^ (w - 1 - i) % 256))
  | 0, _, _, h => by omega
  | w + 1, n, i, h => by
    unfold be
    by_cases hi : i < w
    · rw [List.getElem?_append_left (by rw [be_length]; exact hi), be_at w (n / 256) i hi]
      have e : w + 1 - 1 - i = (w - 1 - i) + 1 := by omega
      rw [e, Nat.pow_succ', Nat.div_div_eq_div_mul]
    · have : i = w := by omega
      subst this
      rw [List.getElem?_append_right (by rw [be_length]; omega), be_length]
      simp

theorem be_cons : ∀ (w n : Nat), be (w + 1) n = UInt8.ofNat (n / 256 ^ w % 256) :: be w n
  | 0, n => by simp [be]
  | w + 1, n => by
    rw [be, be_cons w (n / 256), be, List.cons_append, Nat.div_div_eq_div_mul, Nat.pow_succ']

/-- The bytes read as a number. -/
def un (l : List UInt8) : Nat := l.foldl (fun n c => n * 256 + c.toNat) 0

theorem un_snoc (l : List UInt8) (c : UInt8) : un (l ++ [c]) = un l * 256 + c.toNat := by simp [un]
theorem un_nil : un [] = 0 := rfl

theorem un_lt (l : List UInt8) : un l < 256 ^ l.length := by
  induction l using snoc_ind with
  | h0 => simp [un]
  | h1 l c ih =>
    rw [un_snoc, List.length_append, List.length_singleton, Nat.pow_succ]
    have := c.toNat_lt
    omega

theorem toNat_ofNat (n : Nat) (h : n < 256) : (UInt8.ofNat n).toNat = n := by
  rw [UInt8.toNat_ofNat']
  exact Nat.mod_eq_of_lt (by omega)

theorem un_be : ∀ (w n : Nat), n < 256 ^ w → un (be w n) = n
  | 0, n, h => by simp at h; subst h; rfl
  | w + 1, n, h => by
    have h1 : n / 256 < 256 ^ w := by rw [Nat.pow_succ] at h; omega
    rw [be, un_snoc, un_be w _ h1, toNat_ofNat _ (Nat.mod_lt _ (by omega))]
    omega

theorem be_un : ∀ (w : Nat) (l : List UInt8), l.length = w → be w (un l) = l := by
  intro w l
  induction l using snoc_ind generalizing w with
  | h0 => intro h; simp at h; subst h; rfl
  | h1 l c ih =>
    intro h
    rw [List.length_append, List.length_singleton] at h
    obtain ⟨w, rfl⟩ : ∃ v, w = v + 1 := ⟨w - 1, by omega⟩
    rw [un_snoc, be]
    have hc := c.toNat_lt
    have h1 : (un l * 256 + c.toNat) / 256 = un l := by omega
    have h2 : (un l * 256 + c.toNat) % 256 = c.toNat := by omega
    rw [h1, h2, ih w (by omega)]
    simp

theorem be_inj (w a b : Nat) (ha : a < 256 ^ w) (hb : b < 256 ^ w) (h : be w a = be w b) : a = b := by
  have := congrArg un h
  rwa [un_be w a ha, un_be w b hb] at this

/-! ## the sum -/
def adStep (p : Nat × Nat) (c : UInt8) : Nat × Nat := ((p.1 + c.toNat) % 65521, (p.2 + (p.1 + c.toNat) % 65521) % 65521)
def adFrom (p : Nat × Nat) (l : List UInt8) : Nat × Nat := l.foldl adStep p
def ad (l : List UInt8) : Nat × Nat := adFrom (1, 0) l
def adler (l : List UInt8) : Nat := 65536 * (ad l).2 + (ad l).1

theorem adFrom_snoc (p : Nat × Nat) (l : List UInt8) (c : UInt8) : adFrom p (l ++ [c]) = adStep (adFrom p l) c := by simp [adFrom]
theorem adFrom_append (p : Nat × Nat) (l m : List UInt8) : adFrom p (l ++ m) = adFrom (adFrom p l) m := by simp [adFrom]
theorem adFrom_cons (p : Nat × Nat) (c : UInt8) (l : List UInt8) : adFrom p (c :: l) = adFrom (adStep p c) l := rfl

theorem adFrom_lt (p : Nat × Nat) (h : p.1 < 65521 ∧ p.2 < 65521) (l : List UInt8) : (adFrom p l).1 < 65521 ∧ (adFrom p l).2 < 65521 := by
  induction l using snoc_ind with
  | h0 => exact h
  | h1 l c ih =>
    rw [adFrom_snoc]
    exact ⟨Nat.mod_lt _ (by omega), Nat.mod_lt _ (by omega)⟩
theorem ad_lt (l : List UInt8) : (ad l).1 < 65521 ∧ (ad l).2 < 65521 := adFrom_lt _ ⟨by decide, by decide⟩ l
theorem adler_lt (l : List UInt8) : adler l < 4294967296 := by have := ad_lt l; unfold adler; omega
theorem adler_mod (l : List UInt8) : adler l % 65536 = (ad l).1 := by have := ad_lt l; unfold adler; omega
theorem adler_div (l : List UInt8) : adler l / 65536 = (ad l).2 := by have := ad_lt l; unfold adler; omega

/-- The document's sums, not cut. -/
def rawFrom (p : Nat × Nat) (l : List UInt8) : Nat × Nat := l.foldl (fun p c => (p.1 + c.toNat, p.2 + (p.1 + c.toNat) % 65521)) p
def raw (l : List UInt8) : Nat × Nat := rawFrom (1, 0) l
theorem raw_snoc (l : List UInt8) (c : UInt8) : raw (l ++ [c]) = ((raw l).1 + c.toNat, (raw l).2 + ((raw l).1 + c.toNat) % 65521) := by simp [raw, rawFrom]
theorem raw_mod (l : List UInt8) : (raw l).1 % 65521 = (ad l).1 ∧ (raw l).2 % 65521 = (ad l).2 := by
  induction l using snoc_ind with
  | h0 => exact ⟨rfl, rfl⟩
  | h1 l c ih =>
    obtain ⟨h1, h2⟩ := ih
    rw [raw_snoc]
    show _ ∧ _
    have e : ad (l ++ [c]) = adStep (ad l) c := adFrom_snoc _ l c
    rw [e, adStep, ← h1, ← h2]
    simp only []
    omega
theorem raw_le (l : List UInt8) : (raw l).1 ≤ 1 + 255 * l.length ∧ (raw l).2 ≤ 65520 * l.length := by
  induction l using snoc_ind with
  | h0 => exact ⟨by decide, by decide⟩
  | h1 l c ih =>
    rw [raw_snoc, List.length_append, List.length_singleton]
    have := c.toNat_lt
    have h3 : ((raw l).1 + c.toNat) % 65521 < 65521 := Nat.mod_lt _ (by omega)
    simp only []
    omega

/-- The first half is one more than the bytes' own sum. -/
def total (l : List UInt8) : Nat := (l.map (·.toNat)).sum
theorem adFrom_one (p : Nat × Nat) (l : List UInt8) : (adFrom p l).1 % 65521 = (p.1 + total l) % 65521 := by
  induction l generalizing p with
  | nil => simp [adFrom, total]
  | cons c l ih =>
    rw [adFrom_cons, ih]
    simp only [adStep, total, List.map_cons, List.sum_cons]
    omega
theorem ad_one (l : List UInt8) : (ad l).1 = (1 + total l) % 65521 := by
  have h := adFrom_one (1, 0) l
  have := (ad_lt l).1
  unfold ad at this ⊢
  omega
theorem total_append (l m : List UInt8) : total (l ++ m) = total l + total m := by simp [total]

/-- One byte is another one: the sum is another one. -/
theorem adler_turned (l : List UInt8) (i : Nat) (hi : i < l.length) (c : UInt8) (hc : l[i] ≠ c) : adler (l.set i c) ≠ adler l := by
  intro h
  have h1 : (ad (l.set i c)).1 = (ad l).1 := by rw [← adler_mod, ← adler_mod, h]
  rw [ad_one, ad_one] at h1
  have e1 : l = l.take i ++ l[i] :: l.drop (i + 1) := by
    conv => lhs; rw [← List.take_append_drop i l, List.drop_eq_getElem_cons hi]
  have e2 : l.set i c = l.take i ++ c :: l.drop (i + 1) := List.set_eq_take_append_cons_drop .. |>.trans (by rw [if_pos hi])
  have t1 : total l = total (l.take i) + (l[i].toNat + total (l.drop (i + 1))) := by
    refine (congrArg total e1).trans ?_
    rw [total_append]
    unfold total
    rw [List.map_cons, List.sum_cons]
  have t2 : total (l.set i c) = total (l.take i) + (c.toNat + total (l.drop (i + 1))) := by
    rw [e2, total_append]
    unfold total
    rw [List.map_cons, List.sum_cons]
  rw [t1, t2] at h1
  have hb1 := l[i].toNat_lt
  have hb2 := c.toNat_lt
  have hne : l[i].toNat ≠ c.toNat := fun e => hc (UInt8.toNat_inj.1 e)
  omega

theorem ad_noughts (n : Nat) (hn : n < 65521) : ad (List.replicate n 0) = (1, n) := by
  induction n with
  | zero => rfl
  | succ n ih =>
    rw [List.replicate_succ', ad, adFrom_snoc]
    have := ih (by omega)
    unfold ad at this
    rw [this, adStep]
    simp
    omega
theorem adler_noughts (n : Nat) (hn : n < 65521) : adler (List.replicate n 0) = n * 65536 + 1 := by
  unfold adler
  rw [ad_noughts n hn]
  omega

/-! ## sealed bytes -/
def sealed (l : List UInt8) : List UInt8 := l ++ be 4 (adler l)
theorem sealed_length (l : List UInt8) : (sealed l).length = l.length + 4 := by simp [sealed, be_length]
def opened (l : List UInt8) : Option (List UInt8) := if 4 ≤ l.length ∧ sealed (l.take (l.length - 4)) = l then some (l.take (l.length - 4)) else none
theorem opened_sealed (l : List UInt8) : opened (sealed l) = some l := by
  unfold opened
  have h1 : (sealed l).take ((sealed l).length - 4) = l := by rw [sealed_length]; simp [sealed]
  rw [h1, if_pos ⟨by rw [sealed_length]; omega, rfl⟩]
theorem opened_some {l m : List UInt8} (h : opened l = some m) : sealed m = l := by
  unfold opened at h
  split at h
  · rename_i hc
    injection h with h
    subst h
    exact hc.2
  · cases h
theorem opened_turned (l m : List UInt8) (h : adler m ≠ adler l) : opened (m ++ be 4 (adler l)) = none := by
  unfold opened
  have h1 : (m ++ be 4 (adler l)).take ((m ++ be 4 (adler l)).length - 4) = m := by
    rw [List.length_append, be_length]
    simp
  rw [h1, if_neg]
  rintro ⟨_, he⟩
  unfold sealed at he
  have := be_inj 4 _ _ (Nat.lt_of_lt_of_eq (adler_lt m) rfl) (Nat.lt_of_lt_of_eq (adler_lt l) rfl) (List.append_cancel_left he)
  exact h this
end Go.Proofs.Ytbljacafmkdlmaa
