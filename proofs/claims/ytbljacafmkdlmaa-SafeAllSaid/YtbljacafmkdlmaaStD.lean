/- A store's maps as data: what a row of writes leaves. No program in sight. Condition: where a bound is named. -/
import Derived.Test.YtbljacafmkdlmaaStP
import Derived.Test.YtbljacafmkdlmaaStr
import Derived.Maps.Ext
import Derived.Maps.OwnSet
import Derived.Lib.SlMapFilter
import Derived.Maps.Keyed
namespace Go.Proofs.Ytbljacafmkdlmaa
open Go.WideShapes Go.ChangeMaps

def keyL (a : Int) : Lit := .int .i64 a
def elD (x : List UInt8) : DataW Unit := .lit (.string x)
def Dof (l : List Wrt) : DataW Unit := l.foldl (fun D w => D.put (keyL w.1) (elD w.2)) (.map [])
theorem Dof_nil : Dof [] = .map [] := rfl
theorem Dof_snoc (l : List Wrt) (w : Wrt) : Dof (l ++ [w]) = (Dof l).put (keyL w.1) (elD w.2) := by simp [Dof]

/-- The keys rise, and are integers. -/
def CI (D : DataW Unit) : Prop := ∃ es, D = .map es ∧ es.Pairwise (fun p q => p.1.before q.1 = true) ∧ ∀ p ∈ es, ∃ a : Int, p.1 = keyL a
theorem intKind : Maps.OneKind (fun l => ∃ a : Int, l = keyL a) where
  key := fun ⟨a, h⟩ => by subst h; trivial
  total := fun ⟨a, ha⟩ ⟨b, hb⟩ hne => by
    subst ha hb
    simp only [keyL, Lit.before, decide_eq_true_eq]
    have : a ≠ b := fun e => hne (by rw [e])
    omega
theorem CI.canon {D : DataW Unit} (h : CI D) : Maps.Canon D := by
  obtain ⟨es, rfl, h1, h2⟩ := h
  exact ⟨es, rfl, h1, fun p hp => intKind.key (h2 p hp)⟩
theorem CI.tidy {D : DataW Unit} (h : CI D) : Maps.Tidy D := by
  obtain ⟨es, rfl, h1, _⟩ := h
  exact ⟨es, rfl, Maps.apart_of_rising h1⟩
theorem CI.put {D : DataW Unit} (h : CI D) (a : Int) (d : DataW Unit) : CI (D.put (keyL a) d) := by
  obtain ⟨es, rfl, h1, h2⟩ := h
  refine ⟨_, rfl, Maps.insert_sorted intKind ⟨a, rfl⟩ _ (h1.filter _) (fun p hp => h2 p (List.mem_filter.1 hp).1) (fun p hp he => ?_), fun p hp => ?_⟩
  · have h3 := (List.mem_filter.1 hp).2
    have h4 : p.1 = keyL a := he
    rw [h4] at h3
    rw [WideAt.sameKey_self (show WideAt.IsKeyLit (keyL a) from trivial)] at h3
    cases h3
  · rcases mem_insert_iff.1 hp with rfl | hp
    · exact ⟨a, rfl⟩
    · exact h2 p (List.mem_filter.1 hp).1
theorem CI_Dof (l : List Wrt) : CI (Dof l) := by
  induction l using snoc_ind with
  | h0 => exact ⟨[], rfl, List.Pairwise.nil, by simp⟩
  | h1 l w ih => rw [Dof_snoc]; exact ih.put _ _

theorem keyL_ne {a b : Int} (h : a ≠ b) : keyL a ≠ keyL b := fun e => by
  unfold keyL at e
  injection e with _ e
  exact h e
theorem has_Dof (l : List Wrt) (a : Int) : Maps.has (Dof l) (keyL a) = (lastW l a).isSome := by
  induction l using snoc_ind with
  | h0 => rfl
  | h1 l w ih =>
    rw [Dof_snoc, lastW_snoc]
    by_cases h : w.1 = a
    · subst h
      rw [if_pos rfl, Maps.has_put_same (CI_Dof l).tidy.isMap (show WideAt.IsKeyLit (keyL _) from trivial)]
      rfl
    · rw [if_neg h, Maps.has_put_other (keyL_ne (fun e => h e.symm)), ih]
theorem atKey_Dof (l : List Wrt) (a : Int) (z : DataW Unit) : (Dof l).atKey (keyL a) z = match lastW l a with | some x => elD x | none => z := by
  induction l using snoc_ind with
  | h0 => rfl
  | h1 l w ih =>
    rw [Dof_snoc, lastW_snoc]
    by_cases h : w.1 = a
    · subst h
      rw [if_pos rfl, Maps.atKey_put_same (CI_Dof l).tidy.isMap (show WideAt.IsKeyLit (keyL _) from trivial)]
    · rw [if_neg h, Maps.atKey_put_other (keyL_ne (fun e => h e.symm)), ih]
theorem atKey_sect (l : List Wrt) (a : Int) : (Dof l).atKey (keyL a) (elD z16) = elD (sect l a) := by
  rw [atKey_Dof]
  unfold sect
  cases lastW l a <;> rfl
theorem size_Dof (l : List Wrt) (n : Nat) (h : ∀ w ∈ l, 0 ≤ w.1 ∧ w.1 < n) : Maps.size (Dof l) = usedN l n := by
  induction l using snoc_ind with
  | h0 =>
    have : ∀ n, usedN [] n = 0 := fun n => by
      induction n with
      | zero => rfl
      | succ n ih => unfold usedN; rw [ih]; rfl
    rw [this]
    rfl
  | h1 l w ih =>
    have hw := h w (by simp)
    rw [Dof_snoc, Maps.size_put (CI_Dof l).tidy, has_Dof, ih (fun x hx => h x (by simp [hx])), usedN_snoc l w n hw.1]
    cases (lastW l w.1).isSome
    · simp [hw.2]
    · simp
theorem size_Dof_le (l : List Wrt) : Maps.size (Dof l) ≤ l.length := by
  induction l using snoc_ind with
  | h0 => exact Nat.le_refl _
  | h1 l w ih =>
    rw [Dof_snoc, Maps.size_put (CI_Dof l).tidy, List.length_append, List.length_singleton]
    split <;> omega

/-- Which keys are struck where there are only n sectors. -/
def pdn (n : Int) (k : Lit) (_ : DataW Unit) : Bool := match k with | .int _ a => decide (n ≤ a) | _ => false
theorem CI.strike {D : DataW Unit} (h : CI D) (n : Int) : CI (Lib.deleteFuncD (pdn n) D) := by
  obtain ⟨es, rfl, h1, h2⟩ := h
  exact ⟨_, rfl, h1.filter _, fun p hp => h2 p (List.mem_filter.1 hp).1⟩
theorem has_strike {D : DataW Unit} (n a : Int) : Maps.has (Lib.deleteFuncD (pdn n) D) (keyL a) = (Maps.has D (keyL a) && decide (a < n)) := by
  cases D <;> try rfl
  rename_i es
  show (es.filter fun p => !pdn n p.1 p.2).any (fun p => p.1.sameKey (keyL a)) = (es.any (fun p => p.1.sameKey (keyL a)) && decide (a < n))
  by_cases h : a < n
  · rw [decide_eq_true h, Bool.and_true]
    refine Maps.any_filter_keep (fun p hp => ?_) es
    have := WideAt.sameKey_eq hp
    rw [this]
    simp [pdn, keyL]
    exact h
  · rw [decide_eq_false h, Bool.and_false, List.any_eq_false]
    intro p hp hk
    have h1 := (List.mem_filter.1 hp).2
    have := WideAt.sameKey_eq hk
    rw [this] at h1
    simp [pdn, keyL] at h1
    omega
theorem atKey_strike {D : DataW Unit} {n a : Int} (h : a < n) (z : DataW Unit) : (Lib.deleteFuncD (pdn n) D).atKey (keyL a) z = D.atKey (keyL a) z := by
  cases D <;> try rfl
  rename_i es
  have e := Maps.find_filter_keep (f := fun p : Lit × DataW Unit => p.1.sameKey (keyL a)) (g := fun p => !pdn n p.1 p.2) (fun p hp => by
    have := WideAt.sameKey_eq hp
    rw [this]
    simp [pdn, keyL]
    exact h) es
  unfold DataW.atKey
  simp only [Lib.deleteFuncD]
  rw [e]
theorem lastW_filter (l : List Wrt) (n a : Int) : lastW (l.filter fun w => decide (w.1 < n)) a = if a < n then lastW l a else none := by
  induction l using snoc_ind with
  | h0 => simp [lastW_nil]
  | h1 l w ih =>
    rw [List.filter_append, lastW_snoc]
    by_cases hw : w.1 < n
    · have : List.filter (fun w => decide (w.1 < n)) [w] = [w] := by simp [hw]
      rw [this, lastW_snoc, ih]
      by_cases hwa : w.1 = a
      · subst hwa
        rw [if_pos rfl, if_pos hw, if_pos rfl]
      · rw [if_neg hwa, if_neg hwa]
    · have : List.filter (fun w => decide (w.1 < n)) [w] = [] := by simp [hw]
      rw [this, List.append_nil, ih]
      by_cases ha : a < n
      · rw [if_pos ha, if_pos ha, if_neg (by omega)]
      · rw [if_neg ha, if_neg ha]
theorem has_int {D : DataW Unit} (h : CI D) {k : Lit} (hk : Maps.has D k = true) : ∃ a : Int, k = keyL a := by
  obtain ⟨es, rfl, _, h2⟩ := h
  obtain ⟨p, hp, hs⟩ := List.any_eq_true.1 hk
  obtain ⟨a, ha⟩ := h2 p hp
  exact ⟨a, by rw [← ha]; exact (WideAt.sameKey_eq hs).symm⟩
theorem Dof_strike (l : List Wrt) (n : Int) : Lib.deleteFuncD (pdn n) (Dof l) = Dof (l.filter fun w => decide (w.1 < n)) := by
  have c1 := (CI_Dof l).strike n
  have c2 := CI_Dof (l.filter fun w => decide (w.1 < n))
  have key : ∀ a : Int, Maps.has (Lib.deleteFuncD (pdn n) (Dof l)) (keyL a) = Maps.has (Dof (l.filter fun w => decide (w.1 < n))) (keyL a) := fun a => by
    rw [has_strike, has_Dof, has_Dof, lastW_filter]
    by_cases h : a < n
    · simp [h]
    · simp [h]
  refine Maps.ext c1.canon c2.canon (fun k => ?_) (fun k z hk => ?_)
  · cases h1 : Maps.has (Lib.deleteFuncD (pdn n) (Dof l)) k
    · cases h2 : Maps.has (Dof (l.filter fun w => decide (w.1 < n))) k
      · rfl
      · obtain ⟨a, rfl⟩ := has_int c2 h2
        rw [← key, h1] at h2
        exact h2
    · obtain ⟨a, rfl⟩ := has_int c1 h1
      rw [← key, h1]
  · obtain ⟨a, rfl⟩ := has_int c1 hk
    rw [has_strike] at hk
    have ha : a < n := by
      simp only [Bool.and_eq_true, decide_eq_true_eq] at hk
      exact hk.2
    rw [atKey_strike ha, atKey_Dof, atKey_Dof, lastW_filter, if_pos ha]

/-! ## how a sector reads -/
def isB : Value → Bool
  | .int .u8 x => decide (0 ≤ x) && decide (x < 256)
  | _ => false
def byteOf : Value → UInt8
  | .int _ x => UInt8.ofNat x.toNat
  | _ => 0
def secR (v : Value) : Option (DataW Unit × List MemPlace) :=
  match v with
  | .agg cs => if cs.size = 16 ∧ cs.toList.all isB = true then some (elD (cs.toList.map byteOf), []) else none
  | _ => none
theorem byteOf_mk (c : UInt8) : byteOf (.int .u8 (c.toNat : Int)) = c := by
  show UInt8.ofNat (c.toNat : Int).toNat = c
  rw [Int.toNat_natCast, UInt8.ofNat_toNat]
theorem secR_mk {x : List UInt8} (h : x.length = 16) : secR (.agg (bv x).toArray) = some (elD x, []) := by
  unfold secR
  have h1 : (bv x).toArray.toList.all isB = true := by
    rw [List.all_eq_true]
    intro v hv
    obtain ⟨c, _, rfl⟩ := List.mem_map.1 hv
    have := c.toNat_lt
    simp only [isB, Bool.and_eq_true, decide_eq_true_eq]
    omega
  have h2 : (bv x).toArray.toList.map byteOf = x := by
    show (bv x).map byteOf = x
    unfold bv
    rw [List.map_map]
    conv => rhs; rw [← List.map_id x]
    exact List.map_congr_left (fun c _ => byteOf_mk c)
  have h3 : (bv x).toArray.size = 16 := by rw [List.size_toArray, bv_length, h]
  simp only
  rw [if_pos ⟨h3, h1⟩, h2]
theorem isB_inv {v : Value} (h : isB v = true) : v = .int .u8 ((byteOf v).toNat : Int) := by
  unfold isB at h
  split at h
  · rename_i x
    simp only [Bool.and_eq_true, decide_eq_true_eq] at h
    show Value.int .u8 x = .int .u8 ((UInt8.ofNat x.toNat).toNat : Int)
    rw [toNat_ofNat _ (by omega)]
    congr 1
    omega
  · cases h
theorem secR_inv {v : Value} {z : DataW Unit × List MemPlace} (h : secR v = some z) : ∃ x : List UInt8, x.length = 16 ∧ v = .agg (bv x).toArray ∧ z = (elD x, []) := by
  unfold secR at h
  split at h
  · rename_i cs
    split at h
    · rename_i hc
      injection h with h
      refine ⟨cs.toList.map byteOf, by simpa using hc.1, ?_, h.symm⟩
      have : (bv (cs.toList.map byteOf)) = cs.toList := by
        unfold bv
        rw [List.map_map]
        conv => rhs; rw [← List.map_id cs.toList]
        exact List.map_congr_left (fun v hv => (isB_inv (List.all_eq_true.1 hc.2 v hv)).symm)
      rw [this]
    · cases h
  · cases h
theorem elD_inj {x y : List UInt8} (h : elD x = elD y) : x = y := by
  unfold elD at h
  injection h with h
  injection h
end Go.Proofs.Ytbljacafmkdlmaa
