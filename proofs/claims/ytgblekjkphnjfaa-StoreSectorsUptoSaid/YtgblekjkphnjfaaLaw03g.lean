/- The law StoreSectors. Condition: the script's length fits memory. -/
import Derived.Test.YtgblekjkphnjfaaLaw03f
namespace Go.Proofs.Ytgblekjkphnjfaa
open Go.RowKit
set_option linter.unusedSimpArgs false

/-- The bytes of one sector. -/
def chk (y : List UInt8) (q : Nat) : List UInt8 := (y.drop (16 * q)).take 16
theorem chk_cat {l : List Wrt} (h : ∀ x ∈ l, x.2.length = 16) {q : Nat} (hq : q < 8) : chk (cat l 0 8) q = sect l q := by
  unfold chk
  have e1 := cat_drop h 0 q (8 - q)
  rw [show q + (8 - q) = 8 by omega] at e1
  have e2 := cat_take h (0 + q) 1 (8 - q - 1)
  rw [show 1 + (8 - q - 1) = 8 - q by omega] at e2
  rw [e1, show (16 : Nat) = 16 * 1 from rfl, e2]
  show [] ++ sect l (0 + (q : Int) + ((0 : Nat) : Int)) = _
  rw [List.nil_append, show 0 + (q : Int) + ((0 : Nat) : Int) = q by omega]
/-- Each write more is seen in one of the states. -/
def Seen (L : List (List UInt8)) (s s2 : St) : Prop := ∀ x, s2.l = s.l ++ x → ∀ w ∈ x, ∃ y ∈ L, chk y w.1.toNat = w.2
theorem Seen.step {L : List (List UInt8)} {s s2 s3 : St} (he : Ext s s2) (hL : Seen L s s2) (h3 : s3.OK) (h8 : s3.n = 8) (hs : s3 = s2 ∨ ∃ a b k, s3.l = s2.l ++ chs a b k) : Seen (L ++ [cat s3.l 0 8]) s s3 := by
  intro x hx w hw
  obtain ⟨x2, hx2⟩ := he.l
  rcases hs with rfl | ⟨a, b, k, hs⟩
  · obtain ⟨y, hy, e⟩ := hL x hx w hw
    exact ⟨y, List.mem_append_left _ hy, e⟩
  · have ex : x = x2 ++ chs a b k := by
      rw [hs, hx2, List.append_assoc] at hx
      exact (List.append_cancel_left hx).symm
    rw [ex] at hw
    rcases List.mem_append.1 hw with hw | hw
    · obtain ⟨y, hy, e⟩ := hL x2 hx2 w hw
      exact ⟨y, List.mem_append_left _ hy, e⟩
    · refine ⟨_, List.mem_append_right _ (List.mem_singleton.2 rfl), ?_⟩
      have hm : w ∈ s3.l := by rw [hs]; exact List.mem_append_right _ hw
      obtain ⟨h0, h1, h2⟩ := h3.w w hm
      rw [chk_cat (fun x hx => (h3.w x hx).2.2) (by omega)]
      obtain ⟨j, hj, rfl⟩ := chs_mem hw
      unfold sect
      rw [hs, show (((a + (j : Int)).toNat : Nat) : Int) = a + j by simp only at h0; omega, lastW_chs, if_pos (by omega), show (a + (j : Int) - a).toNat = j by omega]
      rfl
theorem doW_chs (s : St) (o : Opn) (hk : o.kind = 0) : (doO s o).1 = s ∨ ∃ a b k, (doO s o).1.l = s.l ++ chs a b k := by
  have e : (doO s o).1 = (doW s o.at_ o.b).1 := by unfold doO; rw [if_pos hk]
  rw [e]
  unfold doW
  split
  · exact .inl rfl
  split
  · exact .inl rfl
  split
  · exact .inl rfl
  · exact .inr ⟨_, _, _, rfl⟩
theorem lastW_append (a b : List Wrt) (x : Int) : lastW (a ++ b) x = match lastW b x with | some y => some y | none => lastW a x := by
  induction b using snoc_ind with
  | h0 => rw [List.append_nil]; rfl
  | h1 b w ih =>
    rw [← List.append_assoc, lastW_snoc, lastW_snoc]
    split
    · rfl
    · exact ih
/-- Is a sector as it was, or as one of the states has it? -/
def fnd (NW WS : List UInt8) (L : List (List UInt8)) (q : Nat) : Bool := decide (chk NW q = chk WS q) || L.any fun y => decide (chk y q = chk NW q)
theorem fnd_all {s s2 : St} {L : List (List UInt8)} (he : Ext s s2) (hL : Seen L s s2) (h2 : s2.OK) (keep : List Int) {q : Nat} (hq : q < 8) : fnd (cat (doC s2 keep).l 0 8) (cat s.l 0 8) L q = true := by
  obtain ⟨_, hk, x, hx⟩ := he
  have hc := h2.crash keep
  have e1 : (doC s2 keep).l = s.l ++ kp keep x (s2.l.length - s2.k) := by
    show s2.l.take s2.k ++ kp keep (s2.l.drop s2.k) (s2.l.length - s2.k) = _
    rw [hx, hk, List.take_left, List.drop_left]
  have hw : ∀ y ∈ s.l, y.2.length = 16 := fun y hy => (h2.w y (by rw [hx]; exact List.mem_append_left _ hy)).2.2
  unfold fnd
  rw [chk_cat (fun y hy => (hc.w y hy).2.2) hq, chk_cat hw hq]
  cases hl : lastW (kp keep x (s2.l.length - s2.k)) (q : Int) with
  | none =>
    have : sect (doC s2 keep).l (q : Int) = sect s.l q := by
      unfold sect
      rw [e1, lastW_append, hl]
    rw [this]
    simp
  | some y =>
    have e2 : sect (doC s2 keep).l (q : Int) = y := by
      unfold sect
      rw [e1, lastW_append, hl]
      rfl
    obtain ⟨z, hz, e3⟩ := hL x hx _ (kp_mem (lastW_mem hl))
    rw [Bool.or_eq_true, List.any_eq_true]
    exact .inr ⟨z, hz, by rw [decide_eq_true_eq, e2]; simpa using e3⟩
def sv (L : List (List UInt8)) : List Value := L.map fun y => .string (str y)
theorem sv_snoc (L : List (List UInt8)) (y : List UInt8) : sv L ++ [.string (str y)] = sv (L ++ [y]) := by simp [sv]
theorem len_snoc {L : List (List UInt8)} {Y : List UInt8} (h : ∀ y ∈ L, y.length = 128) (hY : Y.length = 128) : ∀ y ∈ L ++ [Y], y.length = 128 := fun y hy => by
  rcases List.mem_append.1 hy with hy | hy
  · exact h y hy
  · rw [List.mem_singleton.1 hy]; exact hY
theorem sv_length (L : List (List UInt8)) : (sv L).length = L.length := by simp [sv]
theorem sv_at {L : List (List UInt8)} {k : Nat} (hk : k < L.length) : (sv L)[k]? = some (.string (str L[k])) := by simp [sv, hk]
theorem Sto.apartO {w : World} {B B2 : Nat} {f : Fp} {s : St} {e : TypeId} {size : Nat} {A : Option Addr} {n c : Nat} {xs : List Value} (h : Sto w B f s) (ho : Own w B2 e size A n c xs) (h1 : e ≠ 64) (h2 : e ≠ 70) : ∀ k, ownB A c = some k → ¬ Foot f k := by
  intro k hk hf
  obtain ⟨_, _, _, h0 | ⟨g, cur, lo, hi, rfl, _, hh, _⟩⟩ := id ho
  · subst h0; simp [ownB] at hk
  · by_cases hc : c = 0
    · subst hc; simp [ownB] at hk
    · rw [ownB_some (by omega)] at hk
      injection hk with hk
      subst hk
      rcases hf with hf | hf | hf | hf
      · have hb := h.blk
        unfold Blk at hb
        rw [← hf, hh] at hb
        injection hb with hb
        injection hb with _ hb
        exact h1 hb
      · exact ho.ne_map h.safe g (ownB_some (by omega) g 0) hf
      · exact ho.ne_map h.seen g (ownB_some (by omega) g 0) hf
      · obtain ⟨_, _, _, h4 | ⟨g4, cur4, lo4, hi4, he4, _, hh4, _⟩⟩ := h.own
        · rw [h4] at hf; simp [ownB] at hf
        · by_cases hc4 : f.c = 0
          · rw [hc4] at hf; simp [ownB] at hf
          · rw [he4, ownB_some (by omega)] at hf
            injection hf with hf
            rw [hf, hh] at hh4
            injection hh4 with hh4
            injection hh4 with _ hh4
            exact h2 hh4
theorem read_eight (B : Nat) (f : Fp) (s : St) (w : World) (h : Sto w B f s) (hn : s.n = 8) (WS : List UInt8) (hw : cat s.l 0 8 = WS) :
    Calls Try.prog 14 #[.pointer (some ⟨f.g, 0, none⟩), .int .i64 0, .int .i64 8] w
    fun e w' => ∃ g c, e = .returned (.tuple #[.slice (some ⟨g, 0, none⟩) 128 c, .int .i64 0]) ∧ WS.length = 128 ∧ 128 ≤ c ∧ w.heap.size ≤ g ∧ Row w' (some ⟨g, 0, none⟩) (bv WS) ∧ Below w.heap.size w w' := by
  have hl : WS.length = 128 := by rw [← hw]; exact cat_length (fun x hx => (h.ok.w x hx).2.2) 0 8
  have hr := read_any B f s w h 0 8 (by omega) (by omega)
  rw [rdS_whole h.ok hn] at hr
  have e8 : cat s.l 0 (8 : Int).toNat = WS := hw
  rw [e8] at hr
  refine hr.mono ?_
  rintro e w' ⟨A, m, c, rfl, hl', hown, hb⟩
  obtain rfl : m = 128 := Eq.trans (Eq.symm hl') hl
  have hrow := hown.row
  obtain ⟨_, hnc, _, h0 | ⟨g, cur, lo, hi, rfl, hB, _⟩⟩ := hown
  · omega
  · exact ⟨g, c, rfl, hl, hnc, hB, hrow, hb⟩
theorem str_extract' (l : List UInt8) (a b : Nat) : (str l).extract a b = str ((l.drop a).take (b - a)) := by
  rw [str_of ((str l).extract a b)]
  congr 1
  rw [ByteArray.data_extract, Array.toList_extract, str_toList]
theorem info_str : (Try.prog.info? 9).map (fun i => (i.zero, i.size, i.bytes)) = some (some (.string ByteArray.empty), 1, 16) := by kernel_rfl

set_option maxHeartbeats 2000000 in
set_option maxRecDepth 100000 in
theorem sectors_law (S : Option Addr) (n c : Nat) (ps : List Opv) (M : Option Addr) (n2 cm : Nat) (qs : List Opv) (K : Option Addr) (nk ck : Nat) (keep : List Int) (w : World) (hn : ps.length = n) (hr : Row w S (ocells ps)) (hn20 : n ≤ 1100000000) (hg : ∀ p ∈ ps, Opv.Good w p)
    (hn2 : qs.length = n2) (hr2 : Row w M (ocells qs)) (hn47 : n2 ≤ 140737488355328) (hg2 : ∀ p ∈ qs, Opv.Good w p) (hnk : keep.length = nk) (hrk : Row w K (iv keep)) (hnk47 : nk ≤ 140737488355328) :
    Calls Try.prog 3 #[.slice S n c, .slice M n2 cm, .slice K nk ck] w fun e w' => e = .returned (.bool true) ∧ Below w.heap.size w w' := by
  obtain ⟨i0, hi0, hz0, hz1, hz2⟩ := info_parts info_str
  have hm := made_any 8 S n c ps w (by omega) hn hr hn20 hg
  have hfw := fun u (hu : Row u S (ocells ps)) => few_any 8 S n c ps u hn hu (by omega) (fun p hp => ⟨(hg p hp).lb, (hg p hp).lk⟩)
  have hfw2 := fun u (hu : Row u M (ocells qs)) => few_any 8 M n2 cm qs u hn2 hu hn47 (fun p hp => ⟨(hg2 p hp).lb, (hg2 p hp).lk⟩)
  have HFW := Lib.hid hfw
  have HFW2 := Lib.hid hfw2
  have HN2 := Lib.hid hn2
  have HG2 := Lib.hid hg2
  have HNK := Lib.hid hnk
  have HZ0 := Lib.hid hz0
  have HZ1 := Lib.hid hz1
  have HZ2 := Lib.hid hz2
  have HI0 := Lib.hid hi0
  clear hg hn hfw hfw2 hn2 hg2 hz0 hz1 hz2 hi0 hnk
  go_enter Try.func3, Try.ntmps3
  go_wp2_with fail
  refine hm.mono ?_
  rintro e w1 ⟨f, s, rfl, hs1, h8, hsl, hb1⟩
  have H8 := Lib.hid h8
  have HSL := Lib.hid hsl
  clear hm h8 hsl
  go_wp2_with fail
  refine (HFW.out _ (hr.below hb1)).mono ?_
  rintro e w2 ⟨fb, rfl, hfb, hb2⟩
  have hb02 := below_all hb1 hb2
  have hs2 := hs1.below hb2
  clear hs1 hb1 hb2 hfb
  cases fb
  · go_wp2_with fail
    refine (alive_any _).mono ?_
    rintro e w3 ⟨rfl, hb3⟩
    go_wp2_with fail
    go_ret
    exact ⟨rfl, below_all hb02 hb3⟩
  go_wp2_with fail
  refine (HFW2.out _ (hr2.below hb02)).mono ?_
  rintro e w3 ⟨fb, rfl, hfb, hb3⟩
  have hb03 := below_all hb02 hb3
  have hs3 := hs2.below hb3
  clear hs2 hb02 hb3 HFW HFW2
  cases fb
  · clear hfb
    go_wp2_with fail
    refine (alive_any _).mono ?_
    rintro e w4 ⟨rfl, hb4⟩
    go_wp2_with fail
    go_ret
    exact ⟨rfl, below_all hb03 hb4⟩
  have hn60 : n2 ≤ 60 := hfb rfl
  clear hfb
  by_cases hk100 : 100 < nk
  · go_wp2_with fail
    refine (alive_any _).mono ?_
    rintro e w4 ⟨rfl, hb4⟩
    go_wp2_with fail
    go_ret
    exact ⟨rfl, below_all hb03 hb4⟩
  have hsl3 : s.l.length ≤ 4096 * n := HSL.out
  have hfl := flush_any w.heap.size f s w3 hs3
  go_wp2_with fail
  refine hfl.mono ?_
  rintro e w4 ⟨f4, rfl, hs4, ht4⟩
  have hb04 := hb03.trans (ht4.belowB hs3)
  have hfg4 : f4.g = f.g := ht4.same
  have hx4 := Ext.flush s
  have hx4l : (doF s).l.length ≤ 4096 * n := hsl3
  have hnF : (doF s).n = 8 := H8.out
  obtain ⟨WS, hWS⟩ : ∃ WS, cat s.l 0 8 = WS := ⟨_, rfl⟩
  have hrd := read_eight w.heap.size f4 (doF s) w4 hs4 H8.out WS hWS
  have hl128 : WS.length = 128 := by rw [← hWS]; exact cat_length (fun x hx => (hs4.ok.w x hx).2.2) 0 8
  rw [hfg4] at hrd
  have HWS := Lib.hid hWS
  have HL1 := Lib.hid hl128
  obtain ⟨s4, hs4e⟩ : ∃ s4, s4 = doF s := ⟨_, rfl⟩
  rw [← hs4e] at hs4 hx4 hx4l hnF
  have hsn4 : Seen [] s s4 := fun x hx w hw => by
    have : x = [] := by
      rw [hs4e] at hx
      exact List.append_cancel_left (bs := x) (cs := []) (by rw [← hx, List.append_nil]; rfl)
    rw [this] at hw
    cases hw
  have HX4 := Lib.hid hx4
  have HSN4 := Lib.hid hsn4
  clear hfl hs3 hb03 ht4 hWS hs4e hx4 hnF hsn4 hl128
  go_wp2_with fail
  refine hrd.mono ?_
  rintro e w5 ⟨g1, c1x, rfl, _, hc1x, hg1, hrow5, hb5⟩
  have hw5 := Away.later hs4 hrow5 (fun _ a ha => by injection ha with ha; rw [← ha]; exact hg1)
  have hs5 := hs4.below hb5
  have hb05 := below_all hb04 hb5
  clear hrd hs4 hb04 hb5 hrow5
  have hA1lt := hw5.row.lt
  have HB5 := Lib.hid hb05.size
  have HA1 := Lib.hid hA1lt
  have hnil : ∀ y ∈ ([] : List (List UInt8)), y.length = 128 := fun y hy => by cases hy
  have HNIL := Lib.hid hnil
  clear hA1lt hnil
  have hi0 := HI0.out
  have hz0 := HZ0.out
  have hz1 := HZ1.out
  have hz2 := HZ2.out
  go_wp2_with fail
  go_loopw [12, 60] (fun v i wr => ∃ (j : Nat) (s2 : St) (f' : Fp) (A' : Option Addr) (c' : Nat) (L : List (List UInt8)), j ≤ n2 ∧ i = .int .i64 j ∧ v = .slice A' j c' ∧ f'.g = f.g ∧ Sto wr w.heap.size f' s2 ∧ Ext s s2 ∧ Seen L s s2 ∧ L.length = j ∧ (∀ y ∈ L, y.length = 128) ∧ s2.l.length ≤ 4096 * n + 4096 * j ∧ Away wr (some ⟨g1, 0, none⟩) (bv WS) (Foot f') ∧ Own wr w5.heap.size 9 1 A' j c' (sv L) ∧ Below w.heap.size w wr ∧ w5.heap.size ≤ wr.heap.size)
    (fun _ i _ => n2 - (intOf i).toNat)
  case atStart => exact ⟨0, s4, f4, none, 0, [], Nat.zero_le _, rfl, rfl, hfg4, hs5, HX4.out, HSN4.out, rfl, HNIL.out, by omega, hw5, Own.nil _ _ _ _ _, hb05, Nat.le_refl _⟩
  case round =>
    obtain ⟨j, s2, f', A', c', L, hj, rfl, rfl, hfg, hc, hext, hsn, hLj, hL128, hsl, hwa, hown, hbr, hw5r⟩ := hrel
    clear hx4l hw5 hs5 hb05
    by_cases hlt : j < n2
    · have hjl : j < qs.length := by rw [HN2.out]; exact hlt
      have hrr := hr2.below hbr
      obtain ⟨g, o, rfl, hgw, c0, c1, c2, c3, c4⟩ := hrr.opv hjl
      have hgood := HG2.out qs[j] (List.getElem_mem hjl)
      obtain ⟨p, hp⟩ : ∃ p, p = qs[j] := ⟨_, rfl⟩
      rw [← hp] at c0 c1 c2 c3 c4 hgood
      have hc1 := hc.alloc (.cells #[.int .i64 p.o.kind, .int .i64 p.o.at_, .int .i64 p.o.n, .slice p.D p.o.b.length p.dc, .slice p.K p.o.keep.length p.kc] 35)
      have hw1 := hwa.below ((Below.refl _ wr).alloc (Nat.le_refl _) (.cells #[.int .i64 p.o.kind, .int .i64 p.o.at_, .int .i64 p.o.n, .slice p.D p.o.b.length p.dc, .slice p.K p.o.keep.length p.kc] 35))
      have hb1 := hbr.alloc hbr.size (.cells #[.int .i64 p.o.kind, .int .i64 p.o.at_, .int .i64 p.o.n, .slice p.D p.o.b.length p.dc, .slice p.K p.o.keep.length p.kc] 35)
      have hown1 := hown.alloc (.cells #[.int .i64 p.o.kind, .int .i64 p.o.at_, .int .i64 p.o.n, .slice p.D p.o.b.length p.dc, .slice p.K p.o.keep.length p.kc] 35)
      have h51 : w5.heap.size ≤ (wr.alloc (.cells #[.int .i64 p.o.kind, .int .i64 p.o.at_, .int .i64 p.o.n, .slice p.D p.o.b.length p.dc, .slice p.K p.o.keep.length p.kc] 35)).heap.size := Nat.le_trans hw5r (by simp)
      have hlen := doO_len hc.ok p.o
      have hsl' : (doO s2 p.o).1.l.length ≤ 4096 * n + 4096 * (j + 1) := Nat.le_trans hlen (by rw [Nat.mul_succ, ← Nat.add_assoc]; exact Nat.add_le_add_right hsl 4096)
      have hdoes := does_any w.heap.size f' s2 p.o p.D p.o.b.length p.dc p.K p.o.keep.length p.kc _ hc1 (by omega) rfl hgood.hb (by have := hgood.lb; omega) (Away.of hgood.rb hc1 (Nat.le_refl _) hb1) rfl (by have := hgood.lk; omega) (Away.of hgood.rk hc1 (Nat.le_refl _) hb1) hgood.in_.2 hgood.ia
      have hext' := fun h => hext.write (o := p.o) h
      have hchs := fun h => doW_chs s2 p.o h
      have hslj' : s2.l.length ≤ 4096 * n + 4096 * (j + 1) := Nat.le_trans hsl (by rw [Nat.mul_succ, ← Nat.add_assoc]; exact Nat.le_add_right _ _)
      obtain ⟨⟨s3, x, er⟩, hxe⟩ : ∃ r, r = doO s2 p.o := ⟨_, rfl⟩
      rw [← hxe] at hdoes hsl' hext' hchs
      rw [hfg] at hdoes
      simp only at hsl' hext' hchs
      clear hp hrr hxe hgood hc hwa hlen hown hbr
      by_cases hk : p.o.kind = 0
      · have hext3 := hext' hk
        have hchs3 := hchs hk
        rw [hk] at hc1 hw1 hb1 hdoes c0 hown1 h51
        have HEXT3 := Lib.hid hext3
        have HCHS3 := Lib.hid hchs3
        have HHEXT := Lib.hid hext
        have HHSN := Lib.hid hsn
        have HHFG := Lib.hid hfg
        have HHLJ := Lib.hid hLj
        have HHL128 := Lib.hid hL128
        clear hext' hchs hext3 hchs3 hk hext hsn hfg hLj hL128
        go_wp2_with fail
        refine hdoes.mono ?_
        rintro e w4 ⟨f5, rfl, hc4, ht4⟩
        simp only at hc4
        have hw4 := hw1.turned ht4
        have hb4 := hb1.trans (ht4.belowB hc1)
        have hown4 := hown1.only ht4.only (fun k hk hf => hc1.apartO hown1 (by decide) (by decide) k hk hf)
        have hfg := HHFG.out
        have hfg5 : f5.g = f.g := ht4.same.trans hfg
        have h54 : w5.heap.size ≤ w4.heap.size := Nat.le_trans h51 ht4.only.size
        have hext := HHEXT.out
        have hsn := HHSN.out
        have hLj := HHLJ.out
        have hL128 := HHL128.out
        have hext3 := HEXT3.out
        have hsn3 : Seen (L ++ [cat s3.l 0 8]) s s3 := Seen.step hext hsn hc4.ok (hext3.n.trans H8.out) HCHS3.out
        clear hdoes ht4 hc1 hw1 hb1 c0 c1 c2 c3 c4 hown1 h51
        have h3n : s3.n = 8 := hext3.n.trans H8.out
        obtain ⟨Y, hY⟩ : ∃ Y, cat s3.l 0 8 = Y := ⟨_, rfl⟩
        have hrdY := read_whole w.heap.size f5 s3 _ hc4 8 h3n Y hY
        rw [hfg5] at hrdY
        have hyl : Y.length = 128 := by rw [← hY]; exact cat_length (fun x hx => (hc4.ok.w x hx).2.2) 0 8
        have hsnY := hsn3
        rw [hY] at hsnY
        have HSNY := Lib.hid hsnY
        have HYL := Lib.hid hyl
        have HL128 := Lib.hid hL128
        have HLJ := Lib.hid hLj
        have HFG5 := Lib.hid hfg5
        have HEXT := Lib.hid hext3
        have hslj : s3.l.length ≤ 4096 * n + 4096 * (j + 1) := hsl'
        clear hsnY hL128 hLj hY hyl h3n hsl hext hsn hfg
        go_wp2_with fail
        refine hrdY.mono ?_
        rintro e w6 ⟨A5, m5, c5, rfl, hl5, hrow5, hb6, _⟩
        have hm5 : m5 = 128 := by rw [← hl5]; exact HYL.out
        subst hm5
        have hstr := run_string (P := Try.prog) (n := 128) HYL.out 29 9 5 (c := c5) Try.underlying29 Try.underlying5 Try.underlying9 hrow5
        have hsto6 := hc4.below hb6
        have hown6 := hown4.below hb6
        have hw6 := hw4.below hb6
        have hb06 := below_all hb4 hb6
        have h56 : w5.heap.size ≤ w6.heap.size := Nat.le_trans h54 hb6.size
        have hap := hsto6.apartO hown6 (by decide) (by decide)
        have HTS := Lib.hid (sv_snoc L Y)
        clear hrdY hl5 hrow5 hb6 hc4 hown4 hw4 hb4 hw5r
        go_wp2_with (at_builtin; refine wpList_app _ rfl _ _ 33 33 rfl w5.heap.size 9 i0 _ 1 16 Try.underlying33 hi0 hz0 hz1 hz2 rfl A' j c' _ rfl (hown6.alloc _) _ 1 _ rfl (Src.new Try.underlying33 rfl (by simp [Value.oneCell'])) (by simp only [maxLen]; omega) (by omega) (Nat.le_trans h56 (by simp)) ?_; intro A3 c3 w3 hown3 hg3 hb3; rw [show (#[Value.string (str Y)] : Array Value).toList = [.string (str Y)] from rfl, HTS.out] at hown3)
        have ho : Only w6 w3 (fun k => ownB A' c' = some k) := ((Only.refl w6 _).alloc _).grown hg3 (fun k hk => .inl hk)
        have hsto7 := hsto6.only ho (fun k hk hk2 => hap k hk2 hk)
        have hrow7 : Row w3 (some ⟨g1, 0, none⟩) (bv WS) := by
          by_cases hx : bv WS = []
          · rw [hx]; exact Row.nil _ _
          · exact hw6.row.only ho (fun a ha hk => by have h1 := HA1.out hx a ha; have h2 := (hown6.lt _ hk).1; omega)
        have hb07 : Below w.heap.size w w3 := (hb06.alloc hb06.size _).grown hg3 (Nat.le_trans hb06.size (by simp)) (fun i hi => by have h2 := (hown6.lt i hi).1; have h3 := HB5.out; omega)
        have h57 : w5.heap.size ≤ w3.heap.size := Nat.le_trans h56 (Nat.le_trans (by simp) hg3.size)
        go_roundw
        case rel => exact ⟨j + 1, s3, f5, A3, c3, L ++ [Y], by omega, by go_num, rfl, HFG5.out, hsto7, HEXT.out, HSNY.out, by rw [List.length_append, HLJ.out]; rfl, len_snoc HL128.out HYL.out, hslj, ⟨hrow7, hw6.2⟩, hown3, hb07, h57⟩
        case measure => simp [intOf]; omega
      · have hsn3 : Seen (L ++ [cat s2.l 0 8]) s s2 := Seen.step hext hsn hc1.ok (hext.n.trans H8.out) (.inl rfl)
        clear hext' hchs hdoes
        have hext3 := hext
        have hfg5 := hfg
        have HHEXT := Lib.hid hext
        have HHSN := Lib.hid hsn
        have HHFG := Lib.hid hfg
        have HHLJ := Lib.hid hLj
        have HHL128 := Lib.hid hL128
        have h3n : s2.n = 8 := hext3.n.trans H8.out
        obtain ⟨Y, hY⟩ : ∃ Y, cat s2.l 0 8 = Y := ⟨_, rfl⟩
        have hrdY := read_whole w.heap.size f' s2 _ hc1 8 h3n Y hY
        rw [hfg5] at hrdY
        have hyl : Y.length = 128 := by rw [← hY]; exact cat_length (fun x hx => (hc1.ok.w x hx).2.2) 0 8
        have hsnY := hsn3
        rw [hY] at hsnY
        have HSNY := Lib.hid hsnY
        have HYL := Lib.hid hyl
        have HL128 := Lib.hid hL128
        have HLJ := Lib.hid hLj
        have HFG5 := Lib.hid hfg5
        have HEXT := Lib.hid hext3
        have hslj : s2.l.length ≤ 4096 * n + 4096 * (j + 1) := hslj'
        clear hsnY hL128 hLj hY hyl h3n hsl hext hsn hfg
        go_wp2_with fail
        refine hrdY.mono ?_
        rintro e w6 ⟨A5, m5, c5, rfl, hl5, hrow5, hb6, _⟩
        have hm5 : m5 = 128 := by rw [← hl5]; exact HYL.out
        subst hm5
        have hstr := run_string (P := Try.prog) (n := 128) HYL.out 29 9 5 (c := c5) Try.underlying29 Try.underlying5 Try.underlying9 hrow5
        have hsto6 := hc1.below hb6
        have hown6 := hown1.below hb6
        have hw6 := hw1.below hb6
        have hb06 := below_all hb1 hb6
        have h56 : w5.heap.size ≤ w6.heap.size := Nat.le_trans h51 hb6.size
        have hap := hsto6.apartO hown6 (by decide) (by decide)
        have HTS := Lib.hid (sv_snoc L Y)
        clear hrdY hl5 hrow5 hb6 hc1 hown1 hw1 hb1 hw5r
        go_wp2_with (at_builtin; refine wpList_app _ rfl _ _ 33 33 rfl w5.heap.size 9 i0 _ 1 16 Try.underlying33 hi0 hz0 hz1 hz2 rfl A' j c' _ rfl (hown6.alloc _) _ 1 _ rfl (Src.new Try.underlying33 rfl (by simp [Value.oneCell'])) (by simp only [maxLen]; omega) (by omega) (Nat.le_trans h56 (by simp)) ?_; intro A3 c3 w3 hown3 hg3 hb3; rw [show (#[Value.string (str Y)] : Array Value).toList = [.string (str Y)] from rfl, HTS.out] at hown3)
        have ho : Only w6 w3 (fun k => ownB A' c' = some k) := ((Only.refl w6 _).alloc _).grown hg3 (fun k hk => .inl hk)
        have hsto7 := hsto6.only ho (fun k hk hk2 => hap k hk2 hk)
        have hrow7 : Row w3 (some ⟨g1, 0, none⟩) (bv WS) := by
          by_cases hx : bv WS = []
          · rw [hx]; exact Row.nil _ _
          · exact hw6.row.only ho (fun a ha hk => by have h1 := HA1.out hx a ha; have h2 := (hown6.lt _ hk).1; omega)
        have hb07 : Below w.heap.size w w3 := (hb06.alloc hb06.size _).grown hg3 (Nat.le_trans hb06.size (by simp)) (fun i hi => by have h2 := (hown6.lt i hi).1; have h3 := HB5.out; omega)
        have h57 : w5.heap.size ≤ w3.heap.size := Nat.le_trans h56 (Nat.le_trans (by simp) hg3.size)
        go_roundw
        case rel => exact ⟨j + 1, s2, f', A3, c3, L ++ [Y], by omega, by go_num, rfl, HFG5.out, hsto7, HEXT.out, HSNY.out, by rw [List.length_append, HLJ.out]; rfl, len_snoc HL128.out HYL.out, hslj, ⟨hrow7, hw6.2⟩, hown3, hb07, h57⟩
        case measure => simp [intOf]; omega
    · obtain rfl : j = n2 := by omega
      have hkp := Away.of hrk hc (Nat.le_refl _) hbr
      have hcr := crash_any w.heap.size f' s2 wr hc K nk ck keep HNK.out hkp (by omega)
      rw [hfg] at hcr
      have hn6 : (doC s2 keep).n = 8 := hext.n.trans H8.out
      obtain ⟨NW, hNW⟩ : ∃ NW, cat (doC s2 keep).l 0 8 = NW := ⟨_, rfl⟩
      have hfin : ∀ q : Nat, q < 8 → fnd NW WS L q = true := fun q hq => by rw [← hNW, ← HWS.out]; exact fnd_all hext hsn hc.ok keep hq
      have HFIN := Lib.hid hfin
      have hap := hc.apartO hown (by decide) (by decide)
      obtain ⟨s6, hs6⟩ : ∃ s6, s6 = doC s2 keep := ⟨_, rfl⟩
      rw [← hs6] at hcr hn6 hNW
      have HNW := Lib.hid hNW
      have HN6 := Lib.hid hn6
      have HFG := Lib.hid hfg
      have HLJ := Lib.hid hLj
      have HL128 := Lib.hid hL128
      clear hfin hs6 hNW hn6 hext hsn hkp hsl hfg hLj hL128 hi0 hz0 hz1 hz2
      go_wp2_with fail
      refine hcr.mono ?_
      rintro e w6 ⟨f6, rfl, hs6, ht6⟩
      have hw6 := hwa.turned ht6
      have hown6 := hown.only ht6.only hap
      have hb6 := hbr.trans (ht6.belowB hc)
      have hfg6 : f6.g = f.g := ht6.same.trans HFG.out
      have hrd := read_eight w.heap.size f6 s6 w6 hs6 HN6.out NW HNW.out
      have hnl : NW.length = 128 := by rw [← HNW.out]; exact cat_length (fun x hx => (hs6.ok.w x hx).2.2) 0 8
      rw [hfg6] at hrd
      have HNL := Lib.hid hnl
      clear hcr hc hwa hown hbr ht6 hap hnl
      go_wp2_with fail
      refine hrd.mono ?_
      rintro e w7 ⟨g7, c7, rfl, _, hc7, _, hrow7, hb7⟩
      have hx1 := hw6.row.below hb7
      have hown7 := hown6.row.below hb7
      have hb07 := below_all hb6 hb7
      clear hrd hb7 hw6 hown6 hb6 hs6 hw5r
      go_wp2_with fail
      go_loop [19] (fun i => ∃ q : Nat, q ≤ 8 ∧ i = .int .i64 ((16 * q : Nat) : Int)) (fun i => 128 - (intOf i).toNat)
      case atStart => exact ⟨0, Nat.zero_le _, rfl⟩
      case round =>
        obtain ⟨q, hq, rfl⟩ := hrel
        by_cases hlt : q < 8
        · have hnl := HNL.out
          have hwl := HL1.out
          have hch : ∀ (g c : Nat) (Z : List UInt8), Z.length = 128 → 128 ≤ c → Row w7 (some ⟨g, 0, none⟩) (bv Z) → (convert 29 9 (.slice (some ⟨g, 16 * q, none⟩) 16 (c - 16 * q))).run Try.prog w7 = .ok (.string (str (chk Z q))) w7 := fun g c Z hz hc hr => by
            have h := hr.drop (16 * q) c (by rw [bv_length]; omega)
            rw [bv_drop, if_neg (by omega), Option.map_some, addr_add, Nat.zero_add] at h
            have h := h.take 16
            rw [bv_take] at h
            exact run_string (P := Try.prog) (n := 16) (by unfold chk; rw [List.length_take, List.length_drop]; omega) 29 9 5 Try.underlying29 Try.underlying5 Try.underlying9 h
          have hs1 := hch g7 c7 NW hnl hc7 hrow7
          have hs2 := hch g1 c1x WS hwl hc1x hx1
          obtain ⟨X, hX⟩ : ∃ X, X = chk NW q := ⟨_, rfl⟩
          obtain ⟨Z, hZ⟩ : ∃ Z, Z = chk WS q := ⟨_, rfl⟩
          rw [← hX] at hs1
          rw [← hZ] at hs2
          have HX := Lib.hid hX
          have HZ := Lib.hid hZ
          clear hnl hwl hch hX hZ
          have hfn : X = Z ∨ ∃ y ∈ L, chk y q = X := by
            have h := HFIN.out q hlt
            unfold fnd at h
            rw [← HX.out, ← HZ.out, Bool.or_eq_true, decide_eq_true_eq, List.any_eq_true] at h
            rcases h with h | ⟨y, hy, h⟩
            · exact .inl h
            · exact .inr ⟨y, hy, by simpa using h⟩
          have HFN := Lib.hid hfn
          clear hfn
          go_wp2_with fail
          go_loop [21, 125] (fun fd i => ∃ (k : Nat) (fb : Bool), k ≤ j ∧ i = .int .i64 k ∧ fd = .bool fb ∧ Hid (fb = true ↔ (X = Z ∨ ∃ y ∈ L.take k, chk y q = X))) (fun _ i => j - (intOf i).toNat)
          case atStart => exact ⟨0, X == Z, Nat.zero_le _, rfl, rfl, Lib.hid (by simp)⟩
          case round =>
            obtain ⟨k, fb, hk, rfl, rfl, HFB⟩ := hrel
            by_cases hkj : k < j
            · have hkl : k < L.length := by rw [HLJ.out]; exact hkj
              obtain ⟨gs, os, rfl, hgs, hcs⟩ := hown7.at_ (by rw [sv_length]; omega)
              have hcell := hcs k _ (sv_at hkl)
              have hy128 := HL128.out _ (List.getElem_mem hkl)
              have htk : L.take (k + 1) = L.take k ++ [L[k]] := List.take_succ_eq_append_getElem hkl
              obtain ⟨y, hy⟩ : ∃ y, y = L[k] := ⟨_, rfl⟩
              rw [← hy] at hcell hy128 htk
              have hsl := fun u => run_slice_string (P := Try.prog) (w := u) 9 (str y) .i64 .i64 (16 * (q : Int)) (16 * (q : Int) + 16) Try.underlying9 (by omega) (by omega) (by rw [str_size]; omega)
              have he : (str y).extract (16 * (q : Int)).toNat (16 * (q : Int) + 16).toNat = str (chk y q) := by
                rw [str_extract', show (16 * (q : Int)).toNat = 16 * q by omega, show (16 * (q : Int) + 16).toNat - 16 * q = 16 by omega]
                rfl
              simp only [he] at hsl
              have HTK := Lib.hid htk
              have HY128 := Lib.hid hy128
              have hsz : (str y).size = 128 := by rw [str_size]; exact hy128
              clear hy htk he hcs hy128
              cases fb
              · go_wp2_with fail
                go_round
                case rel => exact ⟨k + 1, chk y q == X, by omega, by go_num, rfl, Lib.hid (by have h := HFB.out; rw [HTK.out]; simp at h; simp [h.1]; grind)⟩
                case measure => simp [intOf]; omega
              · go_wp2_with fail
                go_round
                case rel => exact ⟨k + 1, true, by omega, by go_num, rfl, Lib.hid (by have h := HFB.out.1 rfl; rw [HTK.out]; rcases h with h | ⟨z, hz, h⟩; exact ⟨fun _ => .inl h, fun _ => rfl⟩; exact ⟨fun _ => .inr ⟨z, List.mem_append_left _ hz, h⟩, fun _ => rfl⟩)⟩
                case measure => simp [intOf]; omega
            · obtain rfl : k = j := by omega
              obtain rfl : fb = true := HFB.out.2 (by rw [List.take_of_length_le (by rw [HLJ.out]; exact Nat.le_refl _)]; exact HFN.out)
              go_wp2_with fail
              go_round
              case rel => exact ⟨q + 1, by omega, by go_num⟩
              case measure => simp [intOf]; omega
        · obtain rfl : q = 8 := by omega
          go_wp2_with fail
          refine (alive_any _).mono ?_
          rintro e w8 ⟨rfl, hb8⟩
          go_wp2_with fail
          go_ret
          exact ⟨rfl, below_all hb07 hb8⟩
end Go.Proofs.Ytgblekjkphnjfaa
