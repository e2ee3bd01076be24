/- pentimentoref05.text and Encode. Conditions: the lengths fit memory. -/
import Derived.Test.YtbljacafmkdlmaaMgF
import Derived.Test.YtbljacafmkdlmaaMgD
import Derived.Test.YtbljacafmkdlmaaMgA
import Derived.Test.YtbljacafmkdlmaaSeqS
namespace Go.Proofs.Ytbljacafmkdlmaa
set_option maxRecDepth 100000
open Go.RowKit

theorem num1 {x : Int} (h : 0 ≤ x ∧ x < 256) : numB 1 x = be 1 x.toNat := (numB_ok (width := 1) (by rw [ft_one]; simp [rt]; omega)).1
theorem num2 {x : Int} (h : 0 ≤ x ∧ x < 65536) : numB 2 x = be 2 x.toNat := (numB_ok (width := 2) (by rw [ft_two]; simp [rt]; omega)).1
theorem num8 {x : Int} (h : 0 ≤ x ∧ x < 4611686018427387904) : numB 8 x = be 8 x.toNat := (numB_ok (width := 8) (by rw [ft_eight]; simp [rt]; omega)).1
theorem cat_at {P : Program} (s t : ByteArray) (l m k : List UInt8) (hs : s = str l) (ht : t = str m) (hk : k = l ++ m) (h : l.length + m.length ≤ 100000) (w : World) : (Op.stringOp .add s t).run P w = .ok (.string (str k)) w := by
  subst hs ht hk
  exact run_cat l m (by omega) w
theorem fitQ {l : List Int} (h : ∀ x ∈ l, 0 ≤ x ∧ x ≤ 65535) : fitAll 2 l = true := by
  unfold fitAll
  rw [List.all_eq_true]
  intro x hx
  have := h x hx
  rw [ft_two]
  simp
  omega
theorem put2 {l : List Int} (h : ∀ x ∈ l, 0 ≤ x ∧ x ≤ 65535) : (if rt 2 && fitAll 2 l then putB (2 : Int).toNat l else []) = putB 2 l := by
  rw [fitQ h]
  rfl
theorem text1 {s : List UInt8} (h : s.length < 256) : (if rt 1 && ft s.length 1 then be (1 : Int).toNat s.length ++ s else []) = be 1 s.length ++ s := by
  rw [if_pos (by rw [ft_one]; simp [rt]; omega)]
  rfl
theorem text_eq2 (h : Hd) : magic ++ be 1 h.b.toNat ++ be 2 h.z.toNat ++ (be 1 h.n.length ++ h.n) ++ be 8 h.g.toNat ++ [UInt8.ofNat (one01 h.c)] ++ be 1 h.p.length ++ putB 2 h.p = h.text := by
  unfold Hd.text
  rw [show be 1 (one01 h.c) = [UInt8.ofNat (one01 h.c)] from by cases h.c <;> rfl]
  rfl

set_option maxHeartbeats 8000000 in
theorem rtext5_any (h : Hd) (A : Option Addr) (c : Nat) (w : World) (hr : Row w A (iv h.p)) (hright : h.right = true) :
    Calls Try.prog 82 #[.agg #[.int .i64 h.b, .int .i64 h.z, .string (str h.n), .int .i64 h.g, .bool h.c, .slice A h.p.length c]] w fun e w' => e = .returned (.string (str h.text)) ∧ Below w.heap.size w w' := by
  have hB := Blk.new w 56 #[.int .i64 h.b, .int .i64 h.z, .string (str h.n), .int .i64 h.g, .bool h.c, .slice A h.p.length c]
  have hb := (Below.refl w.heap.size w).alloc (Nat.le_refl _) (.cells #[.int .i64 h.b, .int .i64 h.z, .string (str h.n), .int .i64 h.g, .bool h.c, .slice A h.p.length c] 56)
  have hra := hr.alloc (.cells #[.int .i64 h.b, .int .i64 h.z, .string (str h.n), .int .i64 h.g, .bool h.c, .slice A h.p.length c] 56)
  obtain ⟨m, hm⟩ : ∃ m, m = h.p.length := ⟨_, rfl⟩
  have hof := h.right_of hright
  rw [← hm] at hB hb hra hof ⊢
  have HM := Lib.hid hm
  clear hm hright hr
  obtain ⟨q1, q2, q3, q4, q5, q6, q7, q8, q9⟩ := hof
  have HQ9 := Lib.hid q9
  have n1 := num1 (x := h.b) (by omega)
  have n2 := num2 (x := h.z) (by omega)
  have n3 := num8 (x := h.g) (by omega)
  have n4 := num1 (x := (m : Int)) (by omega)
  have n5 := put2 q9
  have n6 := text1 (s := h.n) (by omega)
  have l1 := be_length 1 h.b.toNat
  have l2 := be_length 2 h.z.toNat
  have l3 := be_length 8 h.g.toNat
  have l4 := be_length 1 h.n.length
  have l5 := be_length 1 m
  have l6 := putB_length 2 h.p
  rw [← HM.out] at l6
  have l0 : magic.length = 10 := rfl
  obtain ⟨x1, e1⟩ : ∃ x1, x1 = magic ++ be 1 h.b.toNat := ⟨_, rfl⟩
  obtain ⟨x2, e2⟩ : ∃ x2, x2 = x1 ++ be 2 h.z.toNat := ⟨_, rfl⟩
  obtain ⟨x3, e3⟩ : ∃ x3, x3 = x2 ++ (be 1 h.n.length ++ h.n) := ⟨_, rfl⟩
  obtain ⟨x4, e4⟩ : ∃ x4, x4 = x3 ++ be 8 h.g.toNat := ⟨_, rfl⟩
  obtain ⟨x5, e5⟩ : ∃ x5, x5 = x4 ++ [UInt8.ofNat (one01 h.c)] := ⟨_, rfl⟩
  obtain ⟨x6, e6⟩ : ∃ x6, x6 = x5 ++ be 1 m := ⟨_, rfl⟩
  obtain ⟨x7, e7⟩ : ∃ x7, x7 = x6 ++ putB 2 h.p := ⟨_, rfl⟩
  have y1 := congrArg List.length e1
  have y2 := congrArg List.length e2
  have y3 := congrArg List.length e3
  have y4 := congrArg List.length e4
  have y5 := congrArg List.length e5
  have y6 := congrArg List.length e6
  simp only [List.length_append, List.length_cons, List.length_nil] at y1 y2 y3 y4 y5 y6
  have k1 := cat_at (P := Try.prog) ⟨#[112, 101, 110, 116, 105, 109, 101, 110, 116, 111]⟩ _ magic (be 1 h.b.toNat) x1 rfl rfl e1 (by omega)
  have k2 := cat_at (P := Try.prog) (str x1) _ x1 (be 2 h.z.toNat) x2 rfl rfl e2 (by omega)
  have k3 := cat_at (P := Try.prog) (str x2) _ x2 (be 1 h.n.length ++ h.n) x3 rfl rfl e3 (by rw [List.length_append]; omega)
  have k4 := cat_at (P := Try.prog) (str x3) _ x3 (be 8 h.g.toNat) x4 rfl rfl e4 (by omega)
  have k5 := cat_at (P := Try.prog) (str x4) ⟨#[UInt8.ofNat (one01 h.c)]⟩ x4 [UInt8.ofNat (one01 h.c)] x5 rfl rfl e5 (by simp; omega)
  have k6 := cat_at (P := Try.prog) (str x5) _ x5 (be 1 m) x6 rfl rfl e6 (by omega)
  have k7 := cat_at (P := Try.prog) (str x6) _ x6 (putB 2 h.p) x7 rfl rfl e7 (by omega)
  have e8 : x7 = h.text := by
    rw [e7, e6, e5, e4, e3, e2, e1, HM.out]
    exact text_eq2 h
  have E8 := Lib.hid e8
  clear e8 e1 e2 e3 e4 e5 e6 e7 y1 y2 y3 y4 y5 y6 l1 l2 l3 l4 l5 l6 l0
  obtain ⟨⟨f1, f2, f3, f4, f5, f6⟩, f7⟩ := hB.six
  go_enter Try.func82, Try.ntmps82
  go_wp2_with fail
  refine (rText_any h.n 1 _ (by omega)).mono ?_
  rintro e w1 ⟨rfl, hb1⟩
  rw [n6]
  have hB1 := hB.belowAll hb1
  have hr1 := hra.below hb1
  have hb01 := below_all hb hb1
  obtain ⟨⟨f1, f2, f3, f4, f5, f6⟩, f7⟩ := hB1.six
  go_wp2_with fail
  refine wp_region_seq true (.take 0 .addr (.take 1 .load (.take 4 .addr (.take 5 .load (.take 8 .copy (.take 10 .addr (.take 11 .load (.alone 2 (.take 3 (.str2 9) (.alone 6 (.take 7 (.str2 9) (.take 9 (.str2 9) (.alone 12 (.take 13 (.str2 9) (.take 14 .copy .fin))))))))))))))) (by kernel_rfl) (by kernel_rfl) (by kernel_rfl) ?_
  simp only [pre, nxt, List.getElem?_toArray, List.getElem?_cons_zero, List.getElem?_cons_succ, opAt, ghosts, List.nil_append, gStr, ghost, List.cons_append]
  go_wp2_with fail
  refine (num_any h.b 1 _).mono ?_
  rintro e w2 ⟨rfl, hb2⟩
  rw [n1]
  have hb2' : Below w1.heap.size w1 w2 := Below.trans (Below.refl _ _).drew hb2
  have hB2 := hB1.belowAll hb2'
  have hr2 := hr1.below hb2'
  have hb02 := below_all hb01 hb2'
  obtain ⟨⟨f1, f2, f3, f4, f5, f6⟩, f7⟩ := hB2.six
  go_wp2_with fail
  refine next_keep (Keep.below hb2) ?_
  go_wp2_with fail
  refine (num_any h.z 2 _).mono ?_
  rintro e w3 ⟨rfl, hb3⟩
  rw [n2]
  have hB3 := hB2.belowAll hb3
  have hr3 := hr2.below hb3
  have hb03 := below_all hb02 hb3
  obtain ⟨⟨f1, f2, f3, f4, f5, f6⟩, f7⟩ := hB3.six
  go_wp2_with fail
  refine next_keep (Keep.below hb3) ?_
  go_wp2_with fail
  refine (num_any h.g 8 _).mono ?_
  rintro e w4 ⟨rfl, hb4⟩
  rw [n3]
  have hB4 := hB3.belowAll hb4
  have hr4 := hr3.below hb4
  have hb04 := below_all hb03 hb4
  obtain ⟨⟨f1, f2, f3, f4, f5, f6⟩, f7⟩ := hB4.six
  go_wp2_with fail
  refine next_keep (Keep.below hb4) ?_
  go_wp2_with fail
  refine ends_normal ?_
  have K5 := Lib.hid k5
  clear k5
  cases hc : h.c
  · rw [hc] at f5
    have k5 : ∀ w : World, (Op.stringOp .add (str x4) ⟨#[0]⟩).run Try.prog w = .ok (.string (str x5)) w := fun w => by
      have := K5.out w
      rw [hc] at this
      exact this
    clear hc
    go_wp2_with fail
    refine (rPut_any 2 A m c h.p _ HM.out.symm hr4 (by omega)).mono ?_
    rintro e w5 ⟨rfl, hb5⟩
    rw [n5]
    have hB5 := hB4.belowAll hb5
    have hb05 := below_all hb04 hb5
    obtain ⟨⟨f1, f2, f3, f4, f5, f6⟩, f7⟩ := hB5.six
    go_wp2_with fail
    refine (num_any (m : Int) 1 _).mono ?_
    rintro e w6 ⟨rfl, hb6⟩
    rw [n4, Int.toNat_natCast]
    go_wp2_with fail
    go_ret
    exact ⟨by rw [← E8.out]; rfl, below_all hb05 hb6⟩
  · rw [hc] at f5
    have k5 : ∀ w : World, (Op.stringOp .add (str x4) ⟨#[1]⟩).run Try.prog w = .ok (.string (str x5)) w := fun w => by
      have := K5.out w
      rw [hc] at this
      exact this
    clear hc
    go_wp2_with fail
    refine (rPut_any 2 A m c h.p _ HM.out.symm hr4 (by omega)).mono ?_
    rintro e w5 ⟨rfl, hb5⟩
    rw [n5]
    have hB5 := hB4.belowAll hb5
    have hb05 := below_all hb04 hb5
    obtain ⟨⟨f1, f2, f3, f4, f5, f6⟩, f7⟩ := hB5.six
    go_wp2_with fail
    refine (num_any (m : Int) 1 _).mono ?_
    rintro e w6 ⟨rfl, hb6⟩
    rw [n4, Int.toNat_natCast]
    go_wp2_with fail
    go_ret
    exact ⟨by rw [← E8.out]; rfl, below_all hb05 hb6⟩
set_option maxHeartbeats 4000000 in
theorem rEncode5_any (h : Hd) (A : Option Addr) (c : Nat) (w : World) (hr : Row w A (iv h.p)) (hp : h.p.length ≤ 17592186044416) (hnl : h.n.length ≤ 140737488355328) :
    Calls Try.prog 57 #[.agg #[.int .i64 h.b, .int .i64 h.z, .string (str h.n), .int .i64 h.g, .bool h.c, .slice A h.p.length c]] w fun e w' => e = .returned (.tuple #[.string (str (if h.right then sealed h.text else [])), .int .i64 (if h.right then 0 else 50)]) ∧ Below w.heap.size w w' := by
  have hB := Blk.new w 56 #[.int .i64 h.b, .int .i64 h.z, .string (str h.n), .int .i64 h.g, .bool h.c, .slice A h.p.length c]
  have hb := (Below.refl w.heap.size w).alloc (Nat.le_refl _) (.cells #[.int .i64 h.b, .int .i64 h.z, .string (str h.n), .int .i64 h.g, .bool h.c, .slice A h.p.length c] 56)
  have hra := hr.alloc (.cells #[.int .i64 h.b, .int .i64 h.z, .string (str h.n), .int .i64 h.g, .bool h.c, .slice A h.p.length c] 56)
  have hR := fun u (hu : Row u A (iv h.p)) => rRight5_any h A c u hu hp hnl
  have hT := fun u (hu : Row u A (iv h.p)) => rtext5_any h A c u hu
  have HR := Lib.hid hR
  have HT := Lib.hid hT
  clear hR hT
  obtain ⟨m, hm⟩ : ∃ m, m = h.p.length := ⟨_, rfl⟩
  have htl : h.right = true → h.text.length ≤ 140737488355328 := fun hh => by
    obtain ⟨_, _, _, _, q5, _, _, q8, _⟩ := h.right_of hh
    unfold Hd.text
    simp only [List.length_append, be_length, show magic.length = 10 from rfl]
    have : (h.p.flatMap fun x => be 2 x.toNat).length = h.p.length * 2 := putB_length 2 h.p
    omega
  have HTL := Lib.hid htl
  rw [← hm] at hB hb hra HR HT ⊢
  clear hm hr htl
  obtain ⟨xs, hxs⟩ : ∃ xs, xs = (if h.right then sealed h.text else []) := ⟨_, rfl⟩
  obtain ⟨er, her⟩ : ∃ er : Int, er = (if h.right then 0 else 50) := ⟨_, rfl⟩
  rw [← hxs, ← her]
  have HXS := Lib.hid hxs
  have HER := Lib.hid her
  clear hxs her
  go_enter Try.func57, Try.ntmps57
  go_wp2_with fail
  refine (HR.out _ hra).mono ?_
  rintro e w1 ⟨rfl, hb1⟩
  have hB1 := hB.belowAll hb1
  have hr1 := hra.below hb1
  have hb01 := below_all hb hb1
  have hlt1 := hB1.lt
  obtain ⟨⟨f1, f2, f3, f4, f5, f6⟩, f7⟩ := hB1.six
  cases hright : h.right
  · have HRT := Lib.hid hright
    clear hright
    go_wp2_with fail
    go_ret2
    rw [HXS.out, HER.out, HRT.out]
    exact ⟨rfl, hb01⟩
  · have HRT := Lib.hid hright
    clear hright
    go_wp2_with fail
    refine (HT.out _ hr1 HRT.out).mono ?_
    rintro e w2 ⟨rfl, hb2⟩
    go_wp2_with fail
    refine (rSeal_any h.text _ (HTL.out HRT.out)).mono ?_
    rintro e w3 ⟨rfl, hb3⟩
    go_wp2_with fail
    go_ret2
    rw [HXS.out, HER.out, HRT.out]
    exact ⟨rfl, below_all (below_all hb01 hb2) hb3⟩
end Go.Proofs.Ytbljacafmkdlmaa
