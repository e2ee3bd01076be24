/- The law StoreRoom. Condition: the lengths fit memory. -/
import Derived.Test.YtgblekjkphnjfaaStL
namespace Go.Proofs.Ytgblekjkphnjfaa
open Go.RowKit
set_option linter.unusedSimpArgs false

theorem lastW_some {l : List Wrt} {a : Int} : (lastW l a).isSome = true ↔ ∃ w ∈ l, w.1 = a := by
  induction l using snoc_ind with
  | h0 => simp [lastW_nil]
  | h1 l w ih =>
    rw [lastW_snoc]
    by_cases h : w.1 = a
    · rw [if_pos h]
      exact ⟨fun _ => ⟨w, by simp, h⟩, fun _ => rfl⟩
    · rw [if_neg h, ih]
      constructor
      · rintro ⟨x, hx, hxa⟩
        exact ⟨x, List.mem_append_left _ hx, hxa⟩
      · rintro ⟨x, hx, hxa⟩
        rcases List.mem_append.1 hx with hx | hx
        · exact ⟨x, hx, hxa⟩
        · obtain rfl : x = w := by simpa using hx
          exact absurd hxa h
theorem used_sub {l l' : List Wrt} (h : ∀ x ∈ l', x ∈ l) (n : Nat) : usedN l' n ≤ usedN l n :=
  usedN_mono n fun k _ hk => by
    obtain ⟨x, hx, hxa⟩ := lastW_some.1 hk
    exact lastW_some.2 ⟨x, h x hx, hxa⟩
theorem crash_sub {s : St} {keep : List Int} : ∀ x ∈ crashL s keep, x ∈ s.l := fun x hx => by
  rcases List.mem_append.1 hx with hx | hx
  · exact List.mem_of_mem_take hx
  · exact List.mem_of_mem_drop (kp_mem hx)
/-- What is never passed where the room and the sectors stand. -/
theorem roomy {s : St} (o : Opn) (h4 : ¬ o.kind = 4) (h5 : ¬ o.kind = 5) (hu : (s.used : Int) ≤ s.room) : (doO s o).1.room = s.room ∧ ((doO s o).1.used : Int) ≤ s.room := by
  unfold doO
  split
  · unfold doW
    split
    · exact ⟨rfl, hu⟩
    split
    · exact ⟨rfl, hu⟩
    split
    · exact ⟨rfl, hu⟩
    · rename_i h3
      refine ⟨rfl, ?_⟩
      show ((usedN (s.l ++ chs o.at_ o.b (o.b.length / 16)) s.n.toNat : Nat) : Int) ≤ s.room
      omega
  split
  · exact ⟨rfl, hu⟩
  split
  · exact ⟨rfl, hu⟩
  split
  · refine ⟨rfl, ?_⟩
    show ((usedN (crashL s o.keep) s.n.toNat : Nat) : Int) ≤ s.room
    have h1 : usedN (crashL s o.keep) s.n.toNat ≤ s.used := used_sub crash_sub s.n.toNat
    omega
  · exact ⟨rfl, hu⟩

set_option maxHeartbeats 8000000 in
theorem room_law (room : Int) (S : Option Addr) (n c : Nat) (ps : List Opv) (w : World) (hn : ps.length = n) (hr : Row w S (ocells ps)) (hn47 : n ≤ 140737488355328) (hg : ∀ p ∈ ps, Opv.Good w p) :
    Calls Try.prog 5 #[.int .i64 room, .slice S n c] w fun e w' => e = .returned (.bool true) ∧ Below w.heap.size w w' := by
  have HN := Lib.hid hn
  have HG := Lib.hid hg
  by_cases hmay : 0 ≤ room
  rotate_left
  · have hnw := new_no 8 room w (by omega)
    clear hmay
    go_enter Try.func5, Try.ntmps5
    go_wp2_with fail
    refine hnw.mono ?_
    rintro e w2 ⟨rfl, rfl⟩
    go_wp2_with fail
    refine (alive_any _).mono ?_
    rintro e w4 ⟨rfl, hb4⟩
    go_wp2_with fail
    go_ret
    exact ⟨rfl, hb4⟩
  go_enter Try.func5, Try.ntmps5
  go_wp2_with fail
  refine (new_yes 8 room w ⟨by omega, hmay⟩).mono ?_
  rintro e w1 ⟨f, rfl, hs1, hb1⟩
  go_wp2_with fail
  refine (few_any 8 S n c ps w1 hn (hr.below hb1) hn47 (fun p hp => ⟨(hg p hp).lb, (hg p hp).lk⟩)).mono ?_
  rintro e w2 ⟨fb, rfl, hfb, hb2⟩
  have hb02 := below_all hb1 hb2
  have hs2 := hs1.below hb2
  clear hs1 hb1 hb2
  cases fb
  · clear hfb
    go_wp2_with fail
    refine (alive_any _).mono ?_
    rintro e w3 ⟨rfl, hb3⟩
    go_wp2_with fail
    go_ret
    exact ⟨rfl, below_all hb02 hb3⟩
  have hn60 := hfb rfl
  have hu0 : (((⟨8, room, [], 0⟩ : St).used : Nat) : Int) ≤ room := by
    have : (⟨8, room, [], 0⟩ : St).used = 0 := rfl
    omega
  clear hfb hn hg
  go_wp2_with fail
  go_loopw [28] (fun i wr => ∃ (j : Nat) (s : St) (f' : Fp), j ≤ n ∧ i = .int .i64 j ∧ f'.g = f.g ∧ Sto wr w.heap.size f' s ∧ s.room = room ∧ (s.used : Int) ≤ room ∧ s.l.length ≤ 4096 * j ∧ Below w.heap.size w wr)
    (fun i _ => n - (intOf i).toNat)
  case atStart => exact ⟨0, ⟨8, room, [], 0⟩, f, Nat.zero_le _, rfl, rfl, hs2, rfl, hu0, Nat.zero_le _, hb02⟩
  case round =>
    obtain ⟨j, s, f', hj, rfl, hfg, hs, hsr, hsu, hsl, hbr⟩ := hrel
    by_cases hlt : j < n
    · have hjl : j < ps.length := by rw [HN.out]; exact hlt
      have hrr := hr.below hbr
      obtain ⟨g, o, rfl, hgw, c0, c1, c2, c3, c4⟩ := hrr.opv hjl
      have hgood := HG.out ps[j] (List.getElem_mem hjl)
      obtain ⟨p, hp⟩ : ∃ p, p = ps[j] := ⟨_, rfl⟩
      rw [← hp] at c0 c1 c2 c3 c4 hgood
      have hs1 := hs.alloc (.cells #[.int .i64 p.o.kind, .int .i64 p.o.at_, .int .i64 p.o.n, .slice p.D p.o.b.length p.dc, .slice p.K p.o.keep.length p.kc] 35)
      have hb1 := hbr.alloc hbr.size (.cells #[.int .i64 p.o.kind, .int .i64 p.o.at_, .int .i64 p.o.n, .slice p.D p.o.b.length p.dc, .slice p.K p.o.keep.length p.kc] 35)
      by_cases hk5 : p.o.kind = 5
      · rw [hk5] at hs1 hb1
        clear hp hrr
        go_wp2_with fail
        go_roundw
        case rel => exact ⟨j + 1, s, f', by omega, by go_num, hfg, hs1, hsr, hsu, by omega, hb1⟩
        case measure => simp [intOf]; omega
      by_cases hk4 : p.o.kind = 4
      · rw [hk4] at hs1 hb1
        clear hp hrr
        go_wp2_with fail
        go_roundw
        case rel => exact ⟨j + 1, s, f', by omega, by go_num, hfg, hs1, hsr, hsu, by omega, hb1⟩
        case measure => simp [intOf]; omega
      have hlen := doO_len hs.ok p.o
      have hroom := roomy p.o hk4 hk5 (by rw [hsr]; exact hsu)
      have hdoes := does_any w.heap.size f' s p.o p.D p.o.b.length p.dc p.K p.o.keep.length p.kc _ hs1 (by omega) rfl hgood.hb (by have := hgood.lb; omega) (Away.of hgood.rb hs1 (Nat.le_refl _) hb1) rfl (by have := hgood.lk; omega) (Away.of hgood.rk hs1 (Nat.le_refl _) hb1) hgood.in_.2 hgood.ia
      obtain ⟨⟨s', x, er⟩, hxe⟩ : ∃ r, r = doO s p.o := ⟨_, rfl⟩
      rw [← hxe] at hdoes hlen hroom
      have hk5b : (p.o.kind == 5) = false := by simpa using hk5
      have hk4b : (p.o.kind == 4) = false := by simpa using hk4
      rw [hsr] at hroom
      simp only at hlen hroom
      rw [hfg] at hdoes
      have HSR := Lib.hid hsr
      clear hp hxe hrr hsr hsu hk5 hk4
      go_wp2_with fail
      refine hdoes.mono ?_
      rintro e w4 ⟨f4, rfl, hs4, ht4⟩
      simp only at hs4
      have hb4 := hb1.trans (ht4.belowB hs1)
      have hfg4 : f4.g = f.g := ht4.same.trans hfg
      obtain ⟨u, hu⟩ : ∃ u, u = s'.used := ⟨_, rfl⟩
      have hus := used_any w.heap.size f4 s' w4 hs4
      have hls := loose_any w.heap.size f4 s' w4 hs4
      rw [← hu] at hus hroom
      obtain ⟨lo, hlo⟩ : ∃ lo, lo = s'.l.length - s'.k := ⟨_, rfl⟩
      rw [← hlo] at hls
      rw [hfg4] at hus hls
      have hu2 : ¬ room < (u : Int) := by omega
      have HU := Lib.hid hu
      clear hdoes ht4 hs1 hb1 c0 c1 c2 c3 c4 hu hlo hgood
      go_wp2_with fail
      refine hus.mono ?_
      rintro e w5 ⟨rfl, rfl⟩
      go_wp2_with fail
      refine hus.mono ?_
      rintro e w6 ⟨rfl, rfl⟩
      go_wp2_with fail
      refine hls.mono ?_
      rintro e w7 ⟨rfl, rfl⟩
      go_wp2_with fail
      go_roundw
      case rel => exact ⟨j + 1, s', f4, by omega, by go_num, hfg4, hs4, hroom.1, by rw [← HU.out]; exact hroom.2, by omega, hb4⟩
      case measure => simp [intOf]; omega
    · obtain rfl : j = n := by omega
      go_wp2_with fail
      refine (alive_any wr).mono ?_
      rintro e w4 ⟨rfl, hb4⟩
      go_wp2_with fail
      go_ret
      exact ⟨rfl, below_all hbr hb4⟩
end Go.Proofs.Ytgblekjkphnjfaa
