/- head.Encode: what it answers. Conditions: the lengths fit memory. -/
import Derived.Test.YtbljacafmkdlmaaMgF
import Derived.Test.YtbljacafmkdlmaaText
import Derived.Test.YtbljacafmkdlmaaMgC
import Derived.Lib.SlBytesConst
import Derived.Test.YtbljacafmkdlmaaSeqS
namespace Go.Proofs.Ytbljacafmkdlmaa
set_option maxRecDepth 100000
open Go.RowKit

/-- Numbers written behind bytes of the call's own. -/
theorem putA_any (B : Nat) (A : Option Addr) (n c : Nat) (xs : List UInt8) (W : Nat) (width : Int) (hwW : width = W) (l : List Int) (m : Nat) (w : World) (o : Obj) (g : Nat) (hg : g = w.heap.size) (hm : l.length = m) (hL : Row (w.alloc o) (some ⟨w.heap.size, 0, none⟩) (iv l)) (hB : B ≤ w.heap.size)
    (hown : Own w B 5 1 A n c (bv xs)) (hW : rt width = true) (hF : fitAll width l = true) (hsz : n + m * W ≤ 140737488355328) :
    Calls Try.prog 43 #[.slice A n c, .int .i64 width, .slice (some ⟨g, 0, none⟩) m m] (w.alloc o) fun e w' => ∃ A' c', e = .returned (.tuple #[.slice A' (n + m * W) c', .bool true]) ∧ Own w' B 5 1 A' (n + m * W) c' (bv (xs ++ putB W l)) ∧ Below B w w' := by
  subst hg
  refine (put_yes_at B A n c W width hwW _ m m l xs _ hm hL (by simp; omega) (hown.alloc _) hW hF (fun a ha hk => ?_) hsz).mono ?_
  · injection ha with ha
    subst ha
    have := (hown.lt _ hk).2
    exact absurd this (Nat.lt_irrefl _)
  · rintro e w' ⟨A', c', rfl, h1, h2, _⟩
    exact ⟨A', c', rfl, h1, ((Below.refl _ _).alloc hB _).trans (h2.belowB (fun k hk => (hown.lt k hk).1) (by simp; omega))⟩

theorem putR_any (B : Nat) (A : Option Addr) (n c : Nat) (xs : List UInt8) (W : Nat) (width : Int) (hwW : width = W) (l : List Int) (L : Option Addr) (cl m : Nat) (w : World) (hm : l.length = m) (hL : Row w L (iv l)) (hB : B ≤ w.heap.size) (hlt : l ≠ [] → ∀ a, L = some a → a.block < B)
    (hown : Own w B 5 1 A n c (bv xs)) (hW : rt width = true) (hF : fitAll width l = true) (hsz : n + m * W ≤ 140737488355328) :
    Calls Try.prog 43 #[.slice A n c, .int .i64 width, .slice L m cl] w fun e w' => ∃ A' c', e = .returned (.tuple #[.slice A' (n + m * W) c', .bool true]) ∧ Own w' B 5 1 A' (n + m * W) c' (bv (xs ++ putB W l)) ∧ Below B w w' := by
  subst hwW
  refine (put_yes B A n c W L m cl l xs w hm hL hB hown hW hF (fun hne a ha hk => ?_) hsz).mono ?_
  · have := (hown.lt _ hk).1
    have := hlt hne a ha
    omega
  · rintro e w' ⟨A', c', rfl, h1, h2, _⟩
    exact ⟨A', c', rfl, h1, h2.belowB (fun k hk => (hown.lt k hk).1) hB⟩

theorem textA_any (B : Nat) (A : Option Addr) (n c : Nat) (width : Int) (W : Nat) (hwW : width = W) (s xs : List UInt8) (n' : Nat) (w : World) (hB : B ≤ w.heap.size) (hown : Own w B 5 1 A n c (bv xs)) (hW : rt width = true) (hF : ft s.length width = true) (hn' : n' = n + W + s.length)
    (hsz : n' ≤ 140737488355328) :
    Calls Try.prog 56 #[.slice A n c, .string (str s), .int .i64 width] w fun e w' => ∃ A' c', e = .returned (.tuple #[.slice A' n' c', .bool true]) ∧
      Own w' B 5 1 A' n' c' (bv (xs ++ be W s.length ++ s)) ∧ Below B w w' := by
  subst hwW hn'
  refine (text_yes B A n c W s xs w hB hown hW hF (by rw [Int.toNat_natCast]; exact hsz)).mono ?_
  rintro e w' ⟨A', c', rfl, h1, h2, _⟩
  rw [Int.toNat_natCast] at *
  exact ⟨A', c', rfl, h1, h2.belowB (fun k hk => (hown.lt k hk).1) hB⟩

theorem row_lt {w : World} {A : Option Addr} {l : List Int} (h : Row w A (iv l)) (hl : l ≠ []) : ∀ a, A = some a → a.block < w.heap.size := by
  intro a ha
  obtain ⟨g, o, hA, hg, _⟩ := h.at_ (by cases l with | nil => exact absurd rfl hl | cons x l => simp [iv])
  rw [ha] at hA
  injection hA with hA
  subst hA
  exact hg

theorem fitP {l : List Int} (h : ∀ x ∈ l, 0 ≤ x ∧ x ≤ 65535) : fitAll 2 l = true := by
  unfold fitAll
  rw [List.all_eq_true]
  intro x hx
  have := h x hx
  rw [ft_two]
  simp
  omega

theorem fit11 (b : Bool) (m : Nat) (h : m < 256) : fitAll 1 [((one01 b : Nat) : Int), ((m : Nat) : Int)] = true := by
  simp only [fitAll, List.all_cons, List.all_nil, Bool.and_true]
  rw [ft_one, ft_one]
  cases b <;> simp [one01] <;> omega

def EncPost (w : World) (h : Hd) (e : Ending) (w' : World) : Prop :=
  ((h.right = false ∧ e = .returned (.tuple #[.slice none 0 0, .int .i64 50])) ∨ (h.right = true ∧ ∃ A c, e = .returned (.tuple #[.slice A (sealed h.text).length c, .int .i64 0]) ∧ Own w' w.heap.size 5 1 A (sealed h.text).length c (bv (sealed h.text)))) ∧ Below w.heap.size w w'

theorem row_one {w : World} {x : Int} : Row (w.alloc (.cells #[.int .i64 x] 3)) (some ⟨w.heap.size, 0, none⟩) (iv [x]) := row_new
theorem row_pair {w : World} {x y : Int} : Row (w.alloc (.cells #[.int .i64 x, .int .i64 y] 3)) (some ⟨w.heap.size, 0, none⟩) (iv [x, y]) := row_new
theorem fit1 {x : Int} (h : 0 ≤ x ∧ x < 256) : fitAll 1 [x] = true := by
  simp only [fitAll, List.all_cons, List.all_nil, Bool.and_true]
  rw [ft_one]
  simp
  omega
theorem fit2 {x : Int} (h : 0 ≤ x ∧ x < 65536) : fitAll 2 [x] = true := by
  simp only [fitAll, List.all_cons, List.all_nil, Bool.and_true]
  rw [ft_two]
  simp
  omega
theorem fit8 {x : Int} (h : 0 ≤ x ∧ x < 4611686018427387904) : fitAll 8 [x] = true := by
  simp only [fitAll, List.all_cons, List.all_nil, Bool.and_true]
  rw [ft_eight]
  simp
  omega
theorem text_eq (h : Hd) : magic ++ putB 1 [h.b] ++ putB 2 [h.z] ++ be 1 h.n.length ++ h.n ++ putB 8 [h.g] ++ putB 1 [((one01 h.c : Nat) : Int), ((h.p.length : Nat) : Int)] ++ putB 2 h.p = h.text := by
  unfold Hd.text
  simp [putB, List.append_assoc]
theorem text_len (h : Hd) : h.text.length = 10 + 1 + 2 + (1 + h.n.length) + 8 + 1 + 1 + h.p.length * 2 := by
  rw [← text_eq]
  simp only [List.length_append, putB_length, be_length, List.length_cons, List.length_nil]
  rw [show magic.length = 10 from rfl]
  omega

set_option maxHeartbeats 8000000 in
theorem hEncode_any (h : Hd) (A : Option Addr) (c : Nat) (w : World) (hr : Row w A (iv h.p)) (hp : h.p.length ≤ 17592186044416) (hnl : h.n.length ≤ 140737488355328) :
    Calls Try.prog 55 #[.agg #[.int .i64 h.b, .int .i64 h.z, .string (str h.n), .int .i64 h.g, .bool h.c, .slice A h.p.length c]] w (EncPost w h) := by
  have hB := Blk.new w 60 #[.int .i64 h.b, .int .i64 h.z, .string (str h.n), .int .i64 h.g, .bool h.c, .slice A h.p.length c]
  have hb := (Below.refl w.heap.size w).alloc (Nat.le_refl _) (.cells #[.int .i64 h.b, .int .i64 h.z, .string (str h.n), .int .i64 h.g, .bool h.c, .slice A h.p.length c] 60)
  have hra := hr.alloc (.cells #[.int .i64 h.b, .int .i64 h.z, .string (str h.n), .int .i64 h.g, .bool h.c, .slice A h.p.length c] 60)
  have hR := fun u (hu : Row u A (iv h.p)) => hRight_any h A c u hu hp hnl
  have HLT := Lib.hid (fun hne => row_lt (l := h.p) hr hne)
  obtain ⟨m, hm⟩ : ∃ m, m = h.p.length := ⟨_, rfl⟩
  rw [← hm] at hB hb hra hR hp ⊢
  have HM := Lib.hid hm
  have HR := Lib.hid hR
  clear hm hR
  go_enter Try.func55, Try.ntmps55
  go_wp2_with fail
  refine (HR.out _ hra).mono ?_
  rintro e w1 ⟨rfl, hb1⟩
  have hB1 := hB.belowAll hb1
  have hr1 := hra.below hb1
  have hb01 := below_all hb hb1
  have hlt1 := hB1.lt
  cases hright : h.right
  · have HRT := Lib.hid hright
    clear hright
    go_wp2_with fail
    go_ret2
    exact ⟨.inl ⟨HRT.out, rfl⟩, hb01⟩
  have hof := h.right_of hright
  rw [← HM.out] at hof
  obtain ⟨q1, q2, q3, q4, q5, q6, q7, q8, q9⟩ := hof
  have HRT := Lib.hid hright
  have HQ9 := Lib.hid q9
  clear hright q9 hB hra hb1 hr HR
  have hmag := Own.fresh w1 #[.int .u8 112, .int .u8 101, .int .u8 110, .int .u8 116, .int .u8 105, .int .u8 109, .int .u8 101, .int .u8 110, .int .u8 116, .int .u8 111] 5 1 10 10 10 11 (bv magic) (by simp only [maxLen]; omega) (Nat.le_refl _) rfl rfl rfl (.inl (Nat.le_refl _))
  have hbm : Below w1.heap.size w1 _ := (Below.refl _ _).alloc (Nat.le_refl _) (.cells #[.int .u8 112, .int .u8 101, .int .u8 110, .int .u8 116, .int .u8 105, .int .u8 109, .int .u8 101, .int .u8 110, .int .u8 116, .int .u8 111] 5 (10, 11))
  have kc := fun (w : World) (C : Array Value) (n c : Nat) => Lib.run_convert_bytes_const (P := Try.prog) w 23 5 C n c Try.underlying23 Try.underlying5
  obtain ⟨⟨f1, f2, f3, f4, f5, f6⟩, f7⟩ := hB1.six
  obtain ⟨xs0, hxs0⟩ : ∃ xs0, xs0 = magic := ⟨_, rfl⟩
  rw [← hxs0] at hmag
  go_wp2_with fail
  refine (putA_any w1.heap.size _ 10 10 xs0 1 1 rfl [h.b] 1 (w1.alloc (.cells #[.int .u8 112, .int .u8 101, .int .u8 110, .int .u8 116, .int .u8 105, .int .u8 109, .int .u8 101, .int .u8 110, .int .u8 116, .int .u8 111] 5 (10, 11))) _ _ (by rw [World.size_alloc]) rfl row_one (by simp) hmag (by decide) (fit1 (by omega)) (by omega)).mono ?_
  rintro e w3 ⟨A3, c3, rfl, hown3, hb3⟩
  have hbb3 : Below w1.heap.size w1 w3 := hbm.trans hb3
  have hB3 := hB1.below hbb3 hlt1
  have hr3 := hr1.below hbb3
  obtain ⟨⟨f1, f2, f3, f4, f5, f6⟩, f7⟩ := hB3.six
  obtain ⟨xs3, hxs3⟩ : ∃ xs3, xs3 = xs0 ++ putB 1 [h.b] := ⟨_, rfl⟩
  rw [← hxs3] at hown3
  clear hmag hbm hb3
  go_wp2_with fail
  refine (putA_any w1.heap.size A3 (10 + 1 * 1) c3 xs3 2 2 rfl [h.z] 1 w3 _ _ rfl rfl row_one hbb3.size hown3 (by decide) (fit2 (by omega)) (by omega)).mono ?_
  rintro e w4 ⟨A4, c4, rfl, hown4, hb4⟩
  have hbb4 := hbb3.trans hb4
  have hB4 := hB1.below hbb4 hlt1
  have hr4 := hr1.below hbb4
  obtain ⟨⟨f1, f2, f3, f4, f5, f6⟩, f7⟩ := hB4.six
  obtain ⟨xs4, hxs4⟩ : ∃ xs4, xs4 = xs3 ++ putB 2 [h.z] := ⟨_, rfl⟩
  rw [← hxs4] at hown4
  clear hb4
  go_wp2_with fail
  obtain ⟨N, hN⟩ : ∃ N, N = 10 + 1 * 1 + 1 * 2 + 1 + h.n.length := ⟨_, rfl⟩
  have hN30 : N ≤ 30 := by omega
  refine (textA_any w1.heap.size A4 (10 + 1 * 1 + 1 * 2) c4 1 1 rfl h.n xs4 N w4 hbb4.size hown4 (by decide) (by rw [ft_one]; simp; omega) hN (by omega)).mono ?_
  rintro e w5 ⟨A5, c5, rfl, hown5, hb5⟩
  have hbb5 := hbb4.trans hb5
  have hB5 := hB1.below hbb5 hlt1
  have hr5 := hr1.below hbb5
  obtain ⟨⟨f1, f2, f3, f4, f5, f6⟩, f7⟩ := hB5.six
  obtain ⟨xs5, hxs5⟩ : ∃ xs5, xs5 = xs4 ++ be 1 h.n.length ++ h.n := ⟨_, rfl⟩
  rw [← hxs5] at hown5
  have HXS5 := Lib.hid hxs5
  have HN := Lib.hid hN
  clear hb5 hxs5 hN
  go_wp2_with fail
  refine (putA_any w1.heap.size A5 N c5 xs5 8 8 rfl [h.g] 1 w5 _ _ rfl rfl row_one hbb5.size hown5 (by decide) (fit8 (by omega)) (by omega)).mono ?_
  rintro e w6 ⟨A6, c6, rfl, hown6, hb6⟩
  have hbb6 := hbb5.trans hb6
  have hB6 := hB1.below hbb6 hlt1
  have hr6 := hr1.below hbb6
  obtain ⟨⟨f1, f2, f3, f4, f5, f6⟩, f7⟩ := hB6.six
  obtain ⟨xs6, hxs6⟩ : ∃ xs6, xs6 = xs5 ++ putB 8 [h.g] := ⟨_, rfl⟩
  rw [← hxs6] at hown6
  clear hb6
  go_wp2_with fail
  refine wp_region_seqS ((fun u => Blk u w.heap.size 60 #[.int .i64 h.b, .int .i64 h.z, .string (str h.n), .int .i64 h.g, .bool h.c, .slice A m c])) (.take 0 .copy (.take 1 .addr (.hold 2 (.take 4 .addr (.hold 5 (.take 6 (.len 43) (.alone 3 (.alone 7 (.alone 8 (.take 9 .copy (.take 10 .copy (.take 11 .copy (.take 12 .copy .fin))))))))))))) (by kernel_rfl) (by kernel_rfl) (by kernel_rfl) ?_ ?_
  · exact hB6.drew
  simp only [preS, nxtS, List.getElem?_toArray, List.getElem?_cons_zero, List.getElem?_cons_succ, opAt, ghosts, List.nil_append]
  go_wp2_with fail
  refine next_hold (.bool h.c) rfl (hold_cell _ _ rfl ⟨w.heap.size, 4, none⟩ rfl _ _ (fun u h => h.cell 4) rfl Try.underlying4) ?_
  go_wp2_with fail
  refine next_hold (.slice A m c) rfl (hold_cell _ _ rfl ⟨w.heap.size, 5, none⟩ rfl _ _ (fun u h => h.cell 5) rfl Try.underlying43) ?_
  go_wp2_with fail
  refine (one_any h.c _).mono ?_
  rintro e w7 ⟨rfl, rfl⟩
  go_wp2_with fail
  refine nextS hB6.drew ?_
  go_wp2_with fail
  refine nextS (hB6.drew.alloc _) ?_
  go_wp2_with fail
  refine (putA_any w1.heap.size A6 (N + 8) c6 xs6 1 1 rfl [((one01 h.c : Nat) : Int), ((m : Nat) : Int)] 2 w6.drew _ _ rfl rfl row_pair hbb6.size hown6 (by decide) (fit11 h.c m (by omega)) (by omega)).mono ?_
  rintro e w7 ⟨A7, c7, rfl, hown7, hb7⟩
  have hbb7 := hbb6.drew.trans hb7
  have hB7 := hB1.below hbb7 hlt1
  have hr7 := hr1.below hbb7
  obtain ⟨⟨f1, f2, f3, f4, f5, f6⟩, f7⟩ := hB7.six
  obtain ⟨xs7, hxs7⟩ : ∃ xs7, xs7 = xs6 ++ putB 1 [((one01 h.c : Nat) : Int), ((m : Nat) : Int)] := ⟨_, rfl⟩
  rw [← hxs7] at hown7
  have HXS7 := Lib.hid hxs7
  clear hb7 hxs7
  go_wp2_with fail
  refine nextS hB7 ?_
  go_wp2_with fail
  refine ends_normal ?_
  go_wp2_with fail
  refine (putR_any w1.heap.size A7 (N + 8 + 2 * 1) c7 xs7 2 2 rfl h.p A c m w7 HM.out.symm hr7 hbb7.size (fun hne a ha => Nat.lt_trans (HLT.out hne a ha) hlt1) hown7 (by decide) (fitP HQ9.out) (by omega)).mono ?_
  rintro e w8 ⟨A8, c8, rfl, hown8, hb8⟩
  have hbb8 := hbb7.trans hb8
  obtain ⟨xs8, hxs8⟩ : ∃ xs8, xs8 = xs7 ++ putB 2 h.p := ⟨_, rfl⟩
  rw [← hxs8] at hown8
  have HXS8 := Lib.hid hxs8
  clear hb8 hxs8
  go_wp2_with fail
  have hl8 : xs8.length = N + 8 + 2 * 1 + m * 2 := by have h1 := hown8.1; simpa [bv] using h1
  refine (seal_any A8 (N + 8 + 2 * 1 + m * 2) c8 xs8 w8 hl8 hown8.row (by omega)).mono ?_
  rintro e w9 ⟨A9, c9, rfl, hown9, hb9⟩
  have hbb9 := below_all (below_all hb01 hbb8) hb9
  go_wp2_with fail
  go_ret2
  have e8 : xs8 = h.text := by
    rw [HXS8.out, HXS7.out, hxs6, HXS5.out, hxs4, hxs3, hxs0, HM.out]
    exact text_eq h
  have l8 : N + 8 + 2 * 1 + m * 2 + 4 = (sealed h.text).length := by
    have := hown9.1
    rw [← e8]
    simpa [bv] using this.symm
  rw [l8, e8] at hown9
  refine ⟨.inr ⟨HRT.out, A9, c9, ?_, hown9.less (Nat.le_trans (Nat.le_of_lt hlt1) hbb8.size)⟩, hbb9⟩
  rw [← l8]
  rfl
end Go.Proofs.Ytbljacafmkdlmaa
