/- The law OctetsBack. Conditions: the texts' lengths together fit memory. -/
import Derived.Test.YtijogfjihnbmeaaWr
import Derived.Test.YtijogfjihnbmeaaLaw01e
namespace Go.Proofs.Ytijogfjihnbmeaa
open Go.RowKit

theorem nm_put (W x : Nat) (rest : List UInt8) (hw : rt W = true) (hx : (x : Int) < lim W) : nm (be W x ++ rest) 0 W = (rest, 0, x) := by
  have hxW : x < 256 ^ W := by
    have := lim_pow hw
    omega
  have ht : tk (be W x ++ rest) 0 W (!rt W) = (rest, 0, be W x) := by
    unfold tk
    rw [hw, if_neg (by simp), if_neg (by simp), if_neg (by rw [List.length_append, be_length]; omega), Int.toNat_natCast, List.drop_left' (be_length _ _), List.take_left' (be_length _ _)]
  unfold nm
  simp only [ht]
  rw [un_be W x hxW, if_neg]
  rintro ⟨h1, h2⟩
  rw [be_length] at h1
  subst h1
  rw [be_cons 7 x, List.take_succ_cons, List.take_zero] at h2
  have h3 : un [UInt8.ofNat (x / 256 ^ 7 % 256)] = x / 256 ^ 7 % 256 := by
    show (0 * 256 + (UInt8.ofNat (x / 256 ^ 7 % 256)).toNat) = _
    rw [toNat_ofNat _ (Nat.mod_lt _ (by omega))]
    omega
  rw [h3] at h2
  have h4 : (x : Int) < 4611686018427387904 := hx
  have h5 : (256 : Nat) ^ 7 = 72057594037927936 := by decide
  rw [h5] at h2
  omega

theorem ok_zero {p : Pt} (h : p.ok = true) (h0 : p.k = 0) : ∃ W n : Nat, p.wd = W ∧ p.n = n ∧ rt W = true ∧ (n : Int) < lim W ∧ p.bs = be W n := by
  unfold Pt.ok at h
  rw [if_pos h0, Bool.and_eq_true] at h
  obtain ⟨h1, h2⟩ := h
  have h3 : ft p.n p.wd = true := by simpa [fitAll] using h2
  obtain ⟨h4, h5⟩ := ft_lt h3
  obtain ⟨W, hW⟩ : ∃ W : Nat, p.wd = W := Int.eq_ofNat_of_zero_le (by rcases rt_cases h1 with e | e | e | e <;> rw [e] <;> decide)
  obtain ⟨n, hn⟩ := Int.eq_ofNat_of_zero_le h4
  rw [hW] at h1 h5
  rw [hn] at h5
  refine ⟨W, n, hW, hn, h1, h5, ?_⟩
  unfold Pt.bs
  rw [if_pos h0, hW, hn, Int.toNat_natCast]
  simp [putB]
theorem ok_one {p : Pt} (h : p.ok = true) (h1 : p.k = 1) : ∃ W : Nat, p.wd = W ∧ rt W = true ∧ (p.t.length : Int) < lim W ∧ p.bs = be W p.t.length ++ p.t := by
  have h0 : ¬ p.k = 0 := by omega
  unfold Pt.ok at h
  rw [if_neg h0, if_pos h1, Bool.and_eq_true] at h
  obtain ⟨h2, h3⟩ := h
  obtain ⟨h4, h5⟩ := ft_lt h3
  obtain ⟨W, hW⟩ : ∃ W : Nat, p.wd = W := Int.eq_ofNat_of_zero_le (by rcases rt_cases h2 with e | e | e | e <;> rw [e] <;> decide)
  rw [hW] at h2 h5
  refine ⟨W, hW, h2, h5, ?_⟩
  unfold Pt.bs
  rw [if_neg h0, if_pos h1, hW, Int.toNat_natCast]
theorem bs_else {p : Pt} (h0 : ¬ p.k = 0) (h1 : ¬ p.k = 1) : p.bs = [] := by unfold Pt.bs; rw [if_neg h0, if_neg h1]

theorem tk_all (l rest : List UInt8) : tk (l ++ rest) 0 (l.length : Int) false = (rest, 0, l) := by
  unfold tk
  rw [if_neg (by simp), if_neg (by simp), if_neg (by rw [List.length_append]; omega), Int.toNat_natCast, List.drop_left' rfl, List.take_left' rfl]
/-- What was written is read. -/
theorem back_zero {p : Pt} (h : p.ok = true) (h0 : p.k = 0) (rest : List UInt8) : rp (p.bs ++ rest) 0 p.k p.wd 0 = (rest, 0, p.n.toNat, []) := by
  obtain ⟨W, n, hW, hn, hw, hl, hb⟩ := ok_zero h h0
  unfold rp
  rw [if_pos h0, hb, hW, nm_put W n rest hw hl, hn, Int.toNat_natCast]
theorem back_one {p : Pt} (h : p.ok = true) (h1 : p.k = 1) (rest : List UInt8) : rp (p.bs ++ rest) 0 p.k p.wd 0 = (rest, 0, 0, p.t) := by
  obtain ⟨W, hW, hw, hl, hb⟩ := ok_one h h1
  unfold rp
  rw [if_neg (by omega), if_pos h1]
  unfold tx
  rw [hb, hW, List.append_assoc, nm_put W p.t.length (p.t ++ rest) hw hl]
  simp only
  rw [tk_all]
theorem back_else {p : Pt} (h0 : ¬ p.k = 0) (h1 : ¬ p.k = 1) (rest : List UInt8) : rp (p.bs ++ rest) 0 p.k p.wd 0 = (rest, 0, 0, []) := by
  rw [bs_else h0 h1, List.nil_append]
  unfold rp
  rw [if_neg h0, if_neg h1]
  split
  · unfold tk
    rw [if_neg (by simp), if_neg (by simp), if_neg (by omega)]
    simp
  · rfl

theorem out_ok {p : Pt} (h : p.ok = true) : p.out = p.bs := by unfold Pt.out; rw [h]; rfl
theorem okAll_get {ps : List Pt} (h : okAll ps = true) {k : Nat} (hk : k < ps.length) : ps[k].ok = true := List.all_eq_true.1 h _ (List.getElem_mem hk)
theorem outB_drop {ps : List Pt} {k : Nat} (hk : k < ps.length) : outB (ps.drop k) = ps[k].out ++ outB (ps.drop (k + 1)) := by
  unfold outB
  rw [List.drop_eq_getElem_cons hk, List.flatMap_cons]

set_option maxHeartbeats 1000000 in
theorem few_any (A : Option Addr) (n c : Nat) (ps : List Pt) (w : World) (hn : ps.length = n) (hr : Row w A (pcells ps)) (hsz : n ≤ 140737488355328) (hW : totW ps ≤ 100000000) :
    Calls Try.prog 17 #[.slice A n c] w fun e w' => ∃ b, e = .returned (.bool b) ∧ Below w.heap.size w w' := by
  have HN := Lib.hid hn
  clear hn
  go_enter Try.func17, Try.ntmps17
  go_wp2_with fail
  go_loopw [3, 10] (fun v i wr => ∃ (k m : Nat), k ≤ n ∧ i = .int .i64 k ∧ v = .int .i64 ((n + m : Nat) : Int) ∧ Hid (m ≤ totW (ps.take k)) ∧ Below w.heap.size w wr) (fun _ i _ => n - (intOf i).toNat)
  case atStart => exact ⟨0, 0, Nat.zero_le _, rfl, by simp, Lib.hid (Nat.zero_le _), Below.refl _ _⟩
  case round =>
    obtain ⟨k, m, hk, rfl, rfl, hl, hb⟩ := hrel
    by_cases hlt : k < n
    · have hkl : k < ps.length := by rw [HN.out]; exact hlt
      obtain ⟨g2, o2, rfl, hg2, p1, p2, p3, p4⟩ := (hr.below hb).part hkl
      have hts := totW_split ps k hkl
      have ho1 : totW (ps.take (k + 1)) = totW (ps.take k) + (8 + ps[k].t.length) := by rw [List.take_succ_eq_append_getElem hkl, totW_snoc]
      obtain ⟨p, hp⟩ : ∃ p, p = ps[k] := ⟨_, rfl⟩
      rw [← hp] at p1 p2 p3 p4 hts ho1
      rw [p.st] at p4
      clear hp
      obtain ⟨t, ht⟩ : ∃ t, t = p.t := ⟨_, rfl⟩
      rw [← ht] at p4 hts ho1
      have hml := hl.out
      have hb1 := hb.alloc hb.size (.cells #[.int .i64 p.k, .int .i64 p.wd, .int .i64 p.n, .string (str t)] 40)
      have hbd : m + t.length ≤ 100000000 := by omega
      have HO1 := Lib.hid ho1
      obtain ⟨q, hq⟩ : ∃ q, q = t.length := ⟨_, rfl⟩
      have hsz2 : (str t).size = q := by rw [str_size, hq]
      rw [← hq] at hbd HO1
      clear ht hml hts ho1 hq
      go_wp2_with fail
      go_roundw
      case rel => exact ⟨k + 1, m + q, by omega, by go_num, by go_num, Lib.hid (by rw [HO1.out]; have := hl.out; omega), hb1⟩
      case measure => simp [intOf]; omega
    · obtain rfl : k = n := by omega
      go_wp2_with fail
      go_ret
      exact ⟨_, rfl, hb⟩

set_option maxHeartbeats 8000000 in
theorem back_law (A A2 : Option Addr) (n c n2 c2 : Nat) (ps : List Pt) (more : List UInt8) (w : World) (hn : ps.length = n) (hr : Row w A (pcells ps)) (hn2 : more.length = n2) (hr2 : Row w A2 (bv more)) (hsz : n ≤ 140737488355328) (hW : totW ps ≤ 100000000) :
    Calls Try.prog 9 #[.slice A n c, .slice A2 n2 c2] w fun e w' => e = .returned (.bool true) ∧ Below w.heap.size w w' := by
  obtain ⟨i0, hi0, hz0, hz1, hz2⟩ := info_parts info_u8
  have HN := Lib.hid hn
  have HN2 := Lib.hid hn2
  have hlen := outB_len ps
  clear hn hn2
  cases hall : okAll ps
  · have HA := Lib.hid hall
    clear hall
    go_enter Try.func9, Try.ntmps9
    go_wp2_with fail
    refine (write_any A n c ps w HN.out hr hsz hW).mono ?_
    rw [HA.out]
    rintro e w1 ⟨A1, n1, c1, rfl, hl1, hown1, hb1⟩
    go_wp2_with fail
    refine (alive_any w1).mono ?_
    rintro e w2 ⟨rfl, hb2⟩
    go_wp2_with fail
    go_ret
    exact ⟨rfl, below_all hb1 hb2⟩
  · have HA := Lib.hid hall
    clear hall
    go_enter Try.func9, Try.ntmps9
    go_wp2_with fail
    refine (write_any A n c ps w HN.out hr hsz hW).mono ?_
    rw [HA.out]
    rintro e w1 ⟨A1, n1, c1, rfl, hl1, hown1, hb1⟩
    have hr1 := hr.below hb1
    have hr21 := hr2.below hb1
    go_wp2_with fail
    refine (few_any A n c ps w1 HN.out hr1 hsz hW).mono ?_
    rintro e w2 ⟨bf, rfl, hb2⟩
    have hb02 := below_all hb1 hb2
    cases bf
    · go_wp2_with fail
      refine (alive_any w2).mono ?_
      rintro e w3 ⟨rfl, hb3⟩
      go_wp2_with fail
      go_ret
      exact ⟨rfl, below_all hb02 hb3⟩
    by_cases h2 : 20000 < n2
    · go_wp2_with fail
      refine (alive_any w2).mono ?_
      rintro e w3 ⟨rfl, hb3⟩
      go_wp2_with fail
      go_ret
      exact ⟨rfl, below_all hb02 hb3⟩
    have hown2 := hown1.below hb2
    have hr22 := hr21.below hb2
    have hr12 := hr1.below hb2
    have hsr : Src Try.prog w2 22 (.slice A2 n2 c2) 1 n2 (bv more) := Src.slice Try.underlying22 hr22 (by rw [bv_length, HN2.out, Nat.mul_one]) (bv_one more)
    have hn1 : n1 ≤ 100000000 := by omega
    have HL1 := Lib.hid hl1
    clear hl1 hlen
    go_wp2_with (at_builtin; refine wpList_app _ rfl _ _ 22 22 rfl w.heap.size 5 i0 _ 1 1 Try.underlying22 hi0 hz0 hz1 hz2 rfl A1 n1 c1 _ rfl hown2 _ n2 (bv more) rfl hsr (by simp only [maxLen]; omega) (by omega) hb02.size ?_; intro A3 c3 w3 hown3 hg3 hb3; rw [← bv_append] at hown3)
    have hb03 : Below w.heap.size w w3 := hb02.grown hg3 hb02.size (fun i hi => (hown2.lt i hi).1)
    have hr13 := hr.below hb03
    refine (newReader_any A3 (n1 + n2) c3 (outB ps ++ more) w3 (by rw [List.length_append, HL1.out, HN2.out]) hown3.row (by omega)).mono ?_
    rintro e w4 ⟨g, rfl, hg, hrd4, hb4⟩
    have hb04 := below_all hb03 hb4
    have hgw : w.heap.size ≤ g := Nat.le_trans hb03.size hg
    go_wp2_with fail
    go_loopw [37] (fun i wr => ∃ k : Nat, k ≤ n ∧ i = .int .i64 k ∧ Rd wr g (outB (ps.drop k) ++ more) 0 ∧ Below w.heap.size w wr) (fun i _ => n - (intOf i).toNat)
    case atStart => exact ⟨0, Nat.zero_le _, rfl, hrd4, hb04⟩
    case round =>
      obtain ⟨k, hk, rfl, hrd, hb⟩ := hrel
      by_cases hlt : k < n
      · have hkl : k < ps.length := by rw [HN.out]; exact hlt
        obtain ⟨g2, o2, rfl, hg2, p1, p2, p3, p4⟩ := (hr.below hb).part hkl
        have hok := okAll_get HA.out hkl
        have hdr := outB_drop hkl
        rw [out_ok hok] at hdr
        rw [hdr, List.append_assoc] at hrd
        obtain ⟨rest, hrest⟩ : ∃ rest, rest = outB (ps.drop (k + 1)) ++ more := ⟨_, rfl⟩
        rw [← hrest] at hrd
        have HREST := Lib.hid hrest
        clear hdr hrest
        obtain ⟨p, hp⟩ : ∃ p, p = ps[k] := ⟨_, rfl⟩
        rw [← hp] at p1 p2 p3 p4 hok hrd
        rw [p.st] at p4
        clear hp
        obtain ⟨pk, hpk⟩ : ∃ pk, pk = p.k := ⟨_, rfl⟩
        obtain ⟨pw, hpw⟩ : ∃ pw, pw = p.wd := ⟨_, rfl⟩
        obtain ⟨pn, hpn⟩ : ∃ pn, pn = p.n := ⟨_, rfl⟩
        obtain ⟨pt, hpt⟩ : ∃ pt, pt = p.t := ⟨_, rfl⟩
        rw [← hpk] at p1
        rw [← hpw] at p2
        rw [← hpn] at p3
        rw [← hpt] at p4
        have HB0 : Hid (pk = 0 → rp (p.bs ++ rest) 0 pk pw 0 = (rest, 0, pn.toNat, []) ∧ 0 ≤ pn) := Lib.hid fun h => by
          rw [hpk] at h
          refine ⟨by rw [hpk, hpw, hpn]; exact back_zero hok h rest, ?_⟩
          obtain ⟨_, m, _, hm, _⟩ := ok_zero hok h
          rw [hpn, hm]
          omega
        have HB1 : Hid (pk = 1 → rp (p.bs ++ rest) 0 pk pw 0 = (rest, 0, 0, pt)) := Lib.hid fun h => by
          rw [hpk] at h
          rw [hpk, hpw, hpt]
          exact back_one hok h rest
        have HB2 : Hid (¬ pk = 0 → ¬ pk = 1 → rp (p.bs ++ rest) 0 pk pw 0 = (rest, 0, 0, [])) := Lib.hid fun h h' => by
          rw [hpk] at h h'
          rw [hpk, hpw]
          exact back_else h h' rest
        obtain ⟨l1, hl1⟩ : ∃ l1, l1 = p.bs ++ rest := ⟨_, rfl⟩
        rw [← hl1] at HB0 HB1 HB2 hrd
        clear hpk hpw hpn hpt hok hl1
        have hB8 := Blk.new wr 40 #[.int .i64 pk, .int .i64 pw, .int .i64 pn, .string (str pt)]
        have hrda := hrd.alloc (.cells #[.int .i64 pk, .int .i64 pw, .int .i64 pn, .string (str pt)] 40)
        have hba := hb.alloc hb.size (.cells #[.int .i64 pk, .int .i64 pw, .int .i64 pn, .string (str pt)] 40)
        have hgl : g < wr.heap.size := by (obtain ⟨_, _, _, hx, _⟩ := hrd; exact hx.lt)
        by_cases h0 : pk = 0
        · obtain ⟨hrp, hpn0⟩ := HB0.out h0
          obtain ⟨m, rfl⟩ := Int.eq_ofNat_of_zero_le hpn0
          have hR := read_any g l1 0 pk pw 0 ByteArray.empty _ hrda
          rw [hrp, Int.toNat_natCast] at hR
          subst h0
          have HR := Lib.hid hR
          clear hR hrp hpn0
          go_wp2_with fail
          refine HR.out.mono ?_
          rintro e w5 ⟨rfl, hrd5, hon5⟩
          have hb5 := only_below hba hgw hon5
          obtain ⟨⟨f1, f2, f3, f4⟩, _, f5⟩ := (hB8.only hon5 (by show ¬ wr.heap.size = g; omega)).four
          go_wp2_with fail
          refine (err_any g rest 0 _ (hrd5.alloc _)).mono ?_
          rintro e w6 ⟨rfl, rfl⟩
          go_wp2_with fail
          go_roundw
          case rel => exact ⟨k + 1, by omega, by go_num, by rw [← HREST.out]; exact hrd5.alloc _, hb5.alloc hb5.size _⟩
          case measure => simp [intOf]; omega
        · by_cases h1 : pk = 1
          · have hR := read_any g l1 0 pk pw 0 ByteArray.empty _ hrda
            rw [HB1.out h1] at hR
            subst h1
            have HR := Lib.hid hR
            clear hR h0
            go_wp2_with fail
            refine HR.out.mono ?_
            rintro e w5 ⟨rfl, hrd5, hon5⟩
            have hb5 := only_below hba hgw hon5
            obtain ⟨⟨f1, f2, f3, f4⟩, _, f5⟩ := (hB8.only hon5 (by show ¬ wr.heap.size = g; omega)).four
            go_wp2_with fail
            refine (err_any g rest 0 _ (hrd5.alloc _)).mono ?_
            rintro e w6 ⟨rfl, rfl⟩
            go_wp2_with fail
            go_roundw
            case rel => exact ⟨k + 1, by omega, by go_num, by rw [← HREST.out]; exact hrd5.alloc _, hb5.alloc hb5.size _⟩
            case measure => simp [intOf]; omega
          · have hR := read_any g l1 0 pk pw 0 ByteArray.empty _ hrda
            rw [HB2.out h0 h1] at hR
            have e0 : (pk == 0) = false := by simpa using h0
            have e1 : (pk == 1) = false := by simpa using h1
            have HR := Lib.hid hR
            clear hR h0 h1
            go_wp2_with fail
            refine HR.out.mono ?_
            rintro e w5 ⟨rfl, hrd5, hon5⟩
            have hb5 := only_below hba hgw hon5
            obtain ⟨⟨f1, f2, f3, f4⟩, _, f5⟩ := (hB8.only hon5 (by show ¬ wr.heap.size = g; omega)).four
            go_wp2_with fail
            refine (err_any g rest 0 _ (hrd5.alloc _)).mono ?_
            rintro e w6 ⟨rfl, rfl⟩
            go_wp2_with fail
            go_roundw
            case rel => exact ⟨k + 1, by omega, by go_num, by rw [← HREST.out]; exact hrd5.alloc _, hb5.alloc hb5.size _⟩
            case measure => simp [intOf]; omega
      · obtain rfl : k = n := by omega
        have hd0 : ps.drop k = [] := List.drop_eq_nil_of_le (by rw [HN.out]; exact Nat.le_refl _)
        rw [hd0] at hrd
        have hrdm : Rd wr g more 0 := hrd
        clear hd0 hrd
        go_wp2_with fail
        refine (alive_any wr).mono ?_
        rintro e w6 ⟨rfl, hb6⟩
        have hL := left_any g more 0 w6 (hrdm.only hb6)
        rw [HN2.out] at hL
        have HL := Lib.hid hL
        clear hL
        go_wp2_with fail
        refine HL.out.mono ?_
        rintro e w7 ⟨rfl, rfl⟩
        go_wp2_with fail
        go_ret
        exact ⟨rfl, below_all hb hb6⟩
end Go.Proofs.Ytijogfjihnbmeaa
