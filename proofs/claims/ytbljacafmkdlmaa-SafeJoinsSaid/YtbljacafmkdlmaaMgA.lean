/- Several texts in one: Oct1, Oct2. -/
import Derived.Test.YtbljacafmkdlmaaChecked
import Derived.Test.YtbljacafmkdlmaaStr
import Derived.Test.YtbljacafmkdlmaaPlain
/- octets.right and octets.fits: what they answer. No condition on right; fits at a width that is one. -/
namespace Go.Proofs.Ytbljacafmkdlmaa
open Go.RowKit

def bigTop : Int := 4611686018427387904
def rt (width : Int) : Bool := decide (width = 1) || decide (width = 2) || decide (width = 4) || decide (width = 8)
/-- The first number that does not fit. -/
def lim (width : Int) : Int := if width = 8 then bigTop else 256 ^ width.toNat
def ft (n width : Int) : Bool := decide (0 ≤ n) && decide (n < lim width)

theorem rt_cases {width : Int} (h : rt width = true) : width = 1 ∨ width = 2 ∨ width = 4 ∨ width = 8 := by
  simpa [rt, or_assoc] using h
theorem rt_false {width : Int} (h : rt width = false) : width ≠ 1 ∧ width ≠ 2 ∧ width ≠ 4 ∧ width ≠ 8 := by
  simpa [rt, and_assoc] using h

set_option maxHeartbeats 400000 in
theorem right_any (width : Int) (w : World) :
    Calls Try.prog 73 #[.int .i64 width] w fun e w' => e = .returned (.bool (rt width)) ∧ w = w' := by
  by_cases h1 : width = 1
  · subst h1
    go_enter Try.func73, Try.ntmps73
    go_wp2
    go_ret
    exact ⟨rfl, rfl⟩
  by_cases h2 : width = 2
  · subst h2
    go_enter Try.func73, Try.ntmps73
    go_wp2
    go_ret
    exact ⟨rfl, rfl⟩
  by_cases h4 : width = 4
  · subst h4
    go_enter Try.func73, Try.ntmps73
    go_wp2
    go_ret
    exact ⟨rfl, rfl⟩
  by_cases h8 : width = 8
  · subst h8
    go_enter Try.func73, Try.ntmps73
    go_wp2
    go_ret
    exact ⟨rfl, rfl⟩
  have e : rt width = false := by simp [rt, h1, h2, h4, h8]
  have e1 : (width == 1) = false := by simpa using h1
  have e2 : (width == 2) = false := by simpa using h2
  have e4 : (width == 4) = false := by simpa using h4
  have e8 : (width == 8) = false := by simpa using h8
  go_enter Try.func73, Try.ntmps73
  go_wp2
  go_ret
  exact ⟨by rw [e]; rfl, rfl⟩

theorem ft_lt {n width : Int} (h : ft n width = true) : 0 ≤ n ∧ n < lim width := by simpa [ft] using h
theorem lim_one : lim 1 = 256 := rfl
theorem lim_two : lim 2 = 65536 := rfl
theorem lim_four : lim 4 = 4294967296 := rfl
theorem lim_eight : lim 8 = bigTop := rfl
theorem ft_one (n : Int) : ft n 1 = (decide (0 ≤ n) && decide (n < 256)) := rfl
theorem ft_two (n : Int) : ft n 2 = (decide (0 ≤ n) && decide (n < 65536)) := rfl
theorem ft_four (n : Int) : ft n 4 = (decide (0 ≤ n) && decide (n < 4294967296)) := rfl
theorem ft_eight (n : Int) : ft n 8 = (decide (0 ≤ n) && decide (n < 4611686018427387904)) := rfl

theorem lim_le {width : Int} (h : rt width = true) : lim width ≤ 4611686018427387904 := by
  rcases rt_cases h with rfl | rfl | rfl | rfl
  · rw [lim_one]; decide
  · rw [lim_two]; decide
  · rw [lim_four]; decide
  · rw [lim_eight]; exact Int.le_refl _
theorem lim_pow {W : Nat} (h : rt W = true) : lim W ≤ ((256 ^ W : Nat) : Int) := by
  rcases rt_cases h with h | h | h | h
  · obtain rfl : W = 1 := by omega
    exact Int.le_refl _
  · obtain rfl : W = 2 := by omega
    exact Int.le_refl _
  · obtain rfl : W = 4 := by omega
    exact Int.le_refl _
  · obtain rfl : W = 8 := by omega
    show lim 8 ≤ _
    rw [lim_eight]
    decide

set_option maxHeartbeats 400000 in
theorem fits_any (n width : Int) (w : World) (hw : rt width = true) :
    Calls Try.prog 74 #[.int .i64 n, .int .i64 width] w fun e w' => e = .returned (.bool (ft n width)) ∧ w = w' := by
  rcases rt_cases hw with rfl | rfl | rfl | rfl
  all_goals
    by_cases h0 : 0 ≤ n
    · go_enter Try.func74, Try.ntmps74
      go_wp2
      go_ret
      exact ⟨ret_bool (by (first | rw [ft_one] | rw [ft_two] | rw [ft_four] | rw [ft_eight]); simp [h0]), rfl⟩
    · go_enter Try.func74, Try.ntmps74
      go_wp2
      go_ret
      exact ⟨ret_bool (by simp [ft]; omega), rfl⟩
end Go.Proofs.Ytbljacafmkdlmaa

/- octets.Put: what it answers and writes. Conditions: the bytes fit memory. -/
namespace Go.Proofs.Ytbljacafmkdlmaa
open Go.RowKit

theorem info_u8 : (Try.prog.info? 5).map (fun i => (i.zero, i.size, i.bytes)) = some (some (.int .u8 0), 1, 1) := by kernel_rfl
theorem info_int : (Try.prog.info? 3).map (fun i => (i.zero, i.size, i.bytes)) = some (some (.int .i64 0), 1, 8) := by kernel_rfl

/-- The numbers' bytes. -/
def putB (W : Nat) (l : List Int) : List UInt8 := l.flatMap fun n => be W n.toNat
theorem putB_nil (W : Nat) : putB W [] = [] := rfl
theorem putB_snoc (W : Nat) (l : List Int) (n : Int) : putB W (l ++ [n]) = putB W l ++ be W n.toNat := by simp [putB]
theorem putB_length (W : Nat) (l : List Int) : (putB W l).length = l.length * W := by
  induction l with
  | nil => simp [putB]
  | cons n l ih =>
    unfold putB at ih ⊢
    rw [List.flatMap_cons, List.length_append, ih, be_length, List.length_cons, Nat.succ_mul, Nat.add_comm]
theorem putB_take_succ (W : Nat) (l : List Int) (k : Nat) (h : k < l.length) : putB W (l.take (k + 1)) = putB W (l.take k) ++ be W l[k].toNat := by
  rw [List.take_succ_eq_append_getElem h, putB_snoc]

def fitAll (W : Int) (l : List Int) : Bool := l.all fun n => ft n W

set_option maxHeartbeats 1000000 in
theorem put_no (A : Option Addr) (n c : Nat) (width : Int) (L : Option Addr) (m cl : Nat) (l : List Int) (w : World) (hm : l.length = m) (hml : m ≤ 140737488355328) (hL : Row w L (iv l))
    (hno : (rt width && fitAll width l) = false) :
    Calls Try.prog 43 #[.slice A n c, .int .i64 width, .slice L m cl] w fun e w' => e = .returned (.tuple #[.slice A n c, .bool false]) ∧ w = w' := by
  have hb := putB_length 1 l
  by_cases hw : rt width = true
  · have hf : fitAll width l = false := by simpa [hw] using hno
    have HF := Lib.hid hf
    clear hf hno hb
    have HM := Lib.hid hm
    clear hm
    go_enter Try.func43, Try.ntmps43
    go_wp2_with (go_at_call 73; refine (right_any _ _).mono ?_; rintro e w' ⟨rfl, rfl⟩)
    go_loop [19] (fun i => ∃ k : Nat, k ≤ m ∧ i = .int .i64 k ∧ ∀ j, j < k → ∀ x, l[j]? = some x → ft x width = true) (fun i => m - (intOf i).toNat)
    case atStart => exact ⟨0, Nat.zero_le _, rfl, fun j hj => by omega⟩
    case round =>
      obtain ⟨k, hk, rfl, hall⟩ := hrel
      by_cases hlt : k < m
      · have hkl : k < l.length := by rw [HM.out]; exact hlt
        obtain ⟨g, o, rfl, hg, hc⟩ := hL.icell hkl
        have HA := Lib.hid hall
        clear hall
        cases hft : ft l[k] width
        · go_wp2_with (go_at_call 74; refine (fits_any _ _ _ hw).mono ?_; rintro e w' ⟨rfl, rfl⟩)
          go_ret2
          exact ⟨rfl, rfl⟩
        · go_wp2_with (go_at_call 74; refine (fits_any _ _ _ hw).mono ?_; rintro e w' ⟨rfl, rfl⟩)
          go_round
          case rel =>
            refine ⟨k + 1, by omega, by go_num, fun j hj x hx => ?_⟩
            by_cases hjk : j < k
            · exact HA j hjk x hx
            · have : j = k := by omega
              subst this
              rw [List.getElem?_eq_getElem hkl] at hx
              injection hx with hx
              exact hx ▸ hft
          case measure => simp [intOf]; omega
      · exfalso
        have h1 := HF.out
        have h2 : fitAll width l = true := by
          unfold fitAll
          rw [List.all_eq_true]
          intro x hx
          obtain ⟨j, hj, rfl⟩ := List.getElem_of_mem hx
          have h3 := HM.out
          exact hall j (by omega) _ (List.getElem?_eq_getElem hj)
        rw [h2] at h1
        cases h1
  · have hw' : rt width = false := by simpa using hw
    clear hno
    go_enter Try.func43, Try.ntmps43
    go_wp2_with (go_at_call 73; refine (right_any _ _).mono ?_; rintro e w' ⟨rfl, rfl⟩)
    go_ret2
    exact ⟨rfl, rfl⟩

/-- A byte of a number, as the code makes it. -/
theorem be_byte (W i : Nat) (hi : i < W) (x : Int) (h0 : 0 ≤ x) : (be W x.toNat).take (i + 1) = (be W x.toNat).take i ++ [UInt8.ofNat (x.toNat / 2 ^ (8 * (W - 1 - i)) % 256)] ∧
    x / 2 ^ (8 * (W - 1 - i)) % 256 = ((UInt8.ofNat (x.toNat / 2 ^ (8 * (W - 1 - i)) % 256)).toNat : Int) := by
  have hp : (2 : Nat) ^ (8 * (W - 1 - i)) = 256 ^ (W - 1 - i) := by rw [Nat.pow_mul]
  constructor
  · have hb := be_at W x.toNat i hi
    obtain ⟨hl, hb⟩ := List.getElem?_eq_some_iff.1 hb
    rw [List.take_succ_eq_append_getElem hl, hb, hp]
  · rw [toNat_ofNat _ (Nat.mod_lt _ (by omega))]
    obtain ⟨n, rfl⟩ := Int.eq_ofNat_of_zero_le h0
    rw [Int.toNat_natCast]
    simp

set_option maxHeartbeats 1000000 in
theorem put_yes (B : Nat) (A : Option Addr) (n c : Nat) (W : Nat) (L : Option Addr) (m cl : Nat) (l : List Int) (xs : List UInt8) (w : World) (hm : l.length = m) (hL : Row w L (iv l))
    (hB : B ≤ w.heap.size) (hown : Own w B 5 1 A n c (bv xs)) (hW : rt W = true) (hF : fitAll W l = true) (hLA : l ≠ [] → ∀ a, L = some a → ownB A c ≠ some a.block)
    (hsz : n + m * W ≤ 140737488355328) :
    Calls Try.prog 43 #[.slice A n c, .int .i64 W, .slice L m cl] w fun e w' => ∃ A' c', e = .returned (.tuple #[.slice A' (n + m * W) c', .bool true]) ∧
      Own w' B 5 1 A' (n + m * W) c' (bv (xs ++ putB W l)) ∧ Only w w' (fun k => ownB A c = some k) ∧ (ownB A' c' = ownB A c ∨ ∃ g, w.heap.size ≤ g ∧ ownB A' c' = some g) := by
  obtain ⟨i0, hi0, hz0, hz1, hz2⟩ := info_parts info_u8
  have hWc : W = 1 ∨ W = 2 ∨ W = 4 ∨ W = 8 := by rcases rt_cases hW with h | h | h | h <;> omega
  have hW1 : 1 ≤ W := by omega
  have hW8 : W ≤ 8 := by omega
  have hml : m ≤ 140737488355328 := by
    have : m * 1 ≤ m * W := Nat.mul_le_mul_left _ hW1
    omega
  clear hWc
  have HFit : ∀ x, x ∈ l → Hid (ft x W = true) := fun x hx => List.all_eq_true.1 hF x hx
  clear hF
  have HM := Lib.hid hm
  clear hm
  have HLA := Lib.hid hLA
  clear hLA
  go_enter Try.func43, Try.ntmps43
  go_wp2_with (go_at_call 73; refine (right_any _ _).mono ?_; rintro e w' ⟨rfl, rfl⟩)
  go_loop [19] (fun i => ∃ k : Nat, k ≤ m ∧ i = .int .i64 k) (fun i => m - (intOf i).toNat)
  case atStart => exact ⟨0, Nat.zero_le _, rfl⟩
  case round =>
    obtain ⟨k, hk, rfl⟩ := hrel
    by_cases hlt : k < m
    · have hkl : k < l.length := by rw [HM.out]; exact hlt
      obtain ⟨g, o, rfl, hg, hc⟩ := hL.icell hkl
      have hft : ft l[k] W = true := (HFit _ (List.getElem_mem hkl)).out
      go_wp2_with (go_at_call 74; refine (fits_any _ _ _ hW).mono ?_; rintro e w' ⟨rfl, rfl⟩)
      go_round
      case rel => exact ⟨k + 1, by omega, by go_num⟩
      case measure => simp [intOf]; omega
    · go_wp2_with fail
      go_loopw [0, 31] (fun v i wr => ∃ (k : Nat) (A' : Option Addr) (c' : Nat), k ≤ m ∧ i = .int .i64 k ∧ v = .slice A' (n + k * W) c' ∧ Own wr B 5 1 A' (n + k * W) c' (bv (xs ++ putB W (l.take k))) ∧
          Only w wr (fun k => ownB A c = some k) ∧ (ownB A' c' = ownB A c ∨ ∃ g, w.heap.size ≤ g ∧ ownB A' c' = some g))
        (fun _ i _ => m - (intOf i).toNat)
      case atStart => exact ⟨0, A, c, Nat.zero_le _, rfl, by simp, by simpa [putB] using hown, Only.refl _ _, .inl rfl⟩
      case round =>
        obtain ⟨k, A', c', hk, rfl, rfl, hown', honly, hblk⟩ := hrel
        by_cases hlt : k < m
        · have hkl : k < l.length := by rw [HM.out]; exact hlt
          have hLr : Row wr L (iv l) := hL.only honly (fun a ha => HLA.out (by rintro rfl; simp at hkl) a ha)
          obtain ⟨g, o, rfl, hg, hc⟩ := hLr.icell hkl
          go_wp2_with fail
          obtain ⟨wo, rfl⟩ : ∃ wo : World, wo = wr := ⟨_, rfl⟩
          go_loopw [0, 36] (fun v i wr => ∃ (j : Nat) (A' : Option Addr) (c' : Nat), j ≤ W ∧ i = .int .i64 j ∧ v = .slice A' (n + k * W + j) c' ∧ Own wr B 5 1 A' (n + k * W + j) c' (bv (xs ++ putB W (l.take k) ++ (be W l[k].toNat).take j)) ∧
              Only w wr (fun k => ownB A c = some k) ∧ (ownB A' c' = ownB A c ∨ ∃ g, w.heap.size ≤ g ∧ ownB A' c' = some g))
            (fun _ i _ => W - (intOf i).toNat)
          case atStart => exact ⟨0, A', c', Nat.zero_le _, rfl, rfl, by simpa using hown', honly, hblk⟩
          case round =>
            obtain ⟨j, A2, c2, hj, rfl, rfl, hown2, honly2, hblk2⟩ := hrel
            by_cases hjl : j < W
            · have hx0 : 0 ≤ l[k] := (ft_lt (HFit _ (List.getElem_mem hkl)).out).1
              have hs0 : (0 : Int) ≤ (W : Int) - 1 - (j : Int) := by omega
              have hkW : k * W + W ≤ m * W := by rw [← Nat.succ_mul]; exact Nat.mul_le_mul_right _ hlt
              go_wp2_with (at_builtin; refine wpList_app _ rfl _ _ 23 23 rfl B 5 i0 _ 1 1 Try.underlying23 hi0 hz0 hz1 hz2 rfl A2 _ c2 _ rfl (hown2.alloc _) _ 1 _ rfl (Src.new Try.underlying23 rfl (by simp [Value.oneCell'])) (by simp only [maxLen]; omega) (by omega) (Nat.le_trans hB (Nat.le_trans honly2.size (by simp))) ?_; intro A3 c3 w3 hown3 hg3 hb3)
              have hb := be_byte W j hjl l[k] hx0
              rw [hb.2] at hown3
              go_roundw
              case rel =>
                refine ⟨j + 1, A3, c3, by omega, by go_num, rfl, ?_, (honly2.alloc _).grown hg3 (fun i hi => ?_), ?_⟩
                · rw [hb.1, ← List.append_assoc, bv_append _ [_]]
                  exact hown3
                · rcases hblk2 with h | ⟨g2, hg2, h⟩
                  · exact .inl (h ▸ hi)
                  · rw [h] at hi
                    injection hi with hi
                    exact .inr (hi ▸ hg2)
                · rcases hb3 with h | h
                  · rw [h]; exact hblk2
                  · exact .inr ⟨_, Nat.le_trans honly2.size (by simp), h⟩
              case measure => simp [intOf]; omega
            · obtain rfl : j = W := by omega
              have hts := putB_take_succ j l k hkl
              rw [List.take_of_length_le (l := be j l[k].toNat) (by rw [be_length]; omega), List.append_assoc, ← hts] at hown2
              clear hts
              go_wp2_with fail
              go_roundw
              case rel => exact ⟨k + 1, A2, c2, by omega, by go_num, by rw [Nat.succ_mul, Nat.add_assoc], by rw [Nat.succ_mul, ← Nat.add_assoc]; exact hown2, honly2, hblk2⟩
              case measure => simp [intOf]; omega
        · obtain rfl : k = m := by omega
          go_wp2_with fail
          go_ret2
          rw [List.take_of_length_le (by rw [HM.out]; exact Nat.le_refl _)] at hown'
          exact ⟨A', c', rfl, hown', honly, hblk⟩
end Go.Proofs.Ytbljacafmkdlmaa
