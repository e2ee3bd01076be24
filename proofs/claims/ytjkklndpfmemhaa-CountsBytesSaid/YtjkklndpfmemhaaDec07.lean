/- counts.Decode: what it answers. Conditions: the bytes fit memory. -/
import Derived.Test.YtjkklndpfmemhaaDecP
import Derived.Test.YtjkklndpfmemhaaSeqS
namespace Go.Proofs.Ytjkklndpfmemhaa
open Go.RowKit

theorem below_only' {w w1 w2 : World} {g : Nat} (h : Below w.heap.size w w1) (hg : w.heap.size ≤ g) (hon : Only w1 w2 (· = g)) : Below w.heap.size w w2 :=
  h.trans (hon.belowB (fun k hk => by have : k = g := hk; omega) h.size)
theorem Own.aptI {w : World} {B b n : Nat} {A : Option Addr} {l : List UInt8} {xs : List Int} (hown : Own w B 3 1 (some ⟨b, 0, none⟩) n n (iv xs)) (hn : 0 < n) (hr : Row w A (bv l)) : Apt A b l := by
  by_cases hl : l = []
  · exact .inl hl
  · obtain ⟨g, o, rfl, hg, hc⟩ := hr.bcell (k := 0) (List.length_pos_iff.2 hl)
    refine .inr fun a ha hX => ?_
    injection ha with ha
    subst ha
    simp only at hX
    subst hX
    obtain ⟨_, _, _, h | ⟨g', cur, lo, hi, hA, _, hh, _, hs, ht⟩⟩ := hown
    · omega
    · injection hA with hA
      injection hA with hA
      subst hA
      rw [cell_of_row w g _ cur 3 (lo, hi) hh] at hc
      have h1 : cur.toList = iv xs := by rw [← ht, List.take_of_length_le]; simp; omega
      obtain ⟨v, hv⟩ : ∃ v, v = (l[0]'(List.length_pos_iff.2 hl)).toNat := ⟨_, rfl⟩
      rw [← hv] at hc
      have h2 : (iv xs)[o]? = some (.int .u8 (v : Int)) := by rw [← h1]; simpa using hc
      have h3 := List.mem_of_getElem? h2
      obtain ⟨_, _, h4⟩ := List.mem_map.1 h3
      cases h4
theorem Rd.setI {w : World} {g b : Nat} {l : List UInt8} {e : Int} (h : Rd w g l e) (hne : g ≠ b) (hap : ∀ A, Row w A (bv l) → Apt A b l) (i : Nat) (u : Value) : Rd (w.setCell ⟨b, i, none⟩ u) g l e := by
  obtain ⟨A, n, c, h1, h2, h3, h4, h5⟩ := h
  refine ⟨A, n, c, h1.far hne u, h2, h3, ?_, h5⟩
  exact h4.away (hap A h4) (Only.setCell (F := (· = b)) (Only.refl _ _) (p := ⟨b, i, none⟩) (.inl rfl) u)
theorem Rd.lt {w : World} {g : Nat} {l : List UInt8} {e : Int} (h : Rd w g l e) : g < w.heap.size := by
  obtain ⟨_, _, _, h1, _⟩ := h
  exact h1.lt

theorem fill_step (vs : List Int) (k q : Nat) (x : Int) (hk : vs.length = k) (hq : k < q) : (vs ++ List.replicate (q - k) 0).set k x = (vs ++ [x]) ++ List.replicate (q - (k + 1)) 0 := by
  subst hk
  obtain ⟨m, rfl⟩ : ∃ m, q = vs.length + (m + 1) := ⟨q - vs.length - 1, by omega⟩
  rw [show vs.length + (m + 1) - vs.length = m + 1 by omega, show vs.length + (m + 1) - (vs.length + 1) = m by omega, List.replicate_succ, List.append_assoc, List.set_append]
  simp

/-- The round's end. -/
theorem dec_step {wr w2 : World} {B g gr q k : Nat} {vs : List Int} {l2 : List UInt8} {e2 x : Int} (hc : Cnt wr B g (some ⟨B, 0, none⟩) q (vs ++ List.replicate (q - k) 0)) (hk : vs.length = k) (hq : k < q) (hrd : Rd w2 gr l2 e2) (hgr : gr < B) (hon : Only wr w2 (· = gr)) :
    ∃ v, w2.cell? ⟨B, k, none⟩ = some v ∧ w2.frozen? ⟨B, k, none⟩ = false ∧ w2.cell? ⟨g, 0, none⟩ = some (.slice (some ⟨B, 0, none⟩) q q) ∧ (w2.setCell ⟨B, k, none⟩ (.int .i64 x)).cell? ⟨g, 0, none⟩ = some (.slice (some ⟨B, 0, none⟩) q q) ∧
      Cnt (w2.setCell ⟨B, k, none⟩ (.int .i64 x)) B g (some ⟨B, 0, none⟩) q ((vs ++ [x]) ++ List.replicate (q - (k + 1)) 0) ∧ Rd (w2.setCell ⟨B, k, none⟩ (.int .i64 x)) gr l2 e2 ∧ (∀ w0 : World, Below w0.heap.size w0 wr → w0.heap.size ≤ gr → Below w0.heap.size w0 (w2.setCell ⟨B, k, none⟩ (.int .i64 x))) := by
  have hlen : (vs ++ List.replicate (q - k) (0 : Int)).length = q := by rw [List.length_append, List.length_replicate, hk]; omega
  have hc2 : Cnt w2 B g (some ⟨B, 0, none⟩) q (vs ++ List.replicate (q - k) 0) := hc.only hon (fun i hi => by have := (hc.foot i hi).1; omega)
  obtain ⟨b, hb, hbg, h4, h5, h6⟩ := hc2.cell (k := k) (by omega)
  injection hb with hb
  injection hb with hb
  subst hb
  obtain ⟨h7, h8⟩ := h6 x
  rw [fill_step vs k q x hk hq] at h7
  have hh2 := hc2.head
  have hh7 := h7.head
  rw [hlen] at hh2
  have hlen2 : ((vs ++ [x]) ++ List.replicate (q - (k + 1)) (0 : Int)).length = q := by simp [hk]; omega
  rw [hlen2] at hh7
  have hown2 := hc2.own
  rw [hlen] at hown2
  refine ⟨_, h4, h5, hh2, hh7, h7, hrd.setI (by omega) (fun A hA => hown2.aptI (by omega) hA) _ _, fun w0 hb0 hg0 => ?_⟩
  exact (below_only' hb0 hg0 hon).setCell (by show w0.heap.size ≤ B; omega) _

set_option maxHeartbeats 4000000 in
theorem decode_any (A : Option Addr) (n c : Nat) (b : List UInt8) (w : World) (hn : b.length = n) (hr : Row w A (bv b)) (hsz : n ≤ 140737488355328) :
    Calls Try.prog 26 #[.slice A n c] w fun e w' => ((decF b = none ∧ e = .returned (.tuple #[.pointer none, .int .i64 72])) ∨ ∃ y g A' c', decF b = some y ∧ e = .returned (.tuple #[.pointer (some ⟨g, 0, none⟩), .int .i64 0]) ∧ Cnt w' w.heap.size g A' c' y) ∧ Below w.heap.size w w' := by
  have HN := Lib.hid hn
  clear hn
  go_enter Try.func26, Try.ntmps26
  go_wp2_with fail
  refine (newReader_any A n c b w HN.out hr hsz).mono ?_
  rintro e w1 ⟨gr, rfl, hgr, hrd1, hb1⟩
  go_wp2_with fail
  refine (rnum_any gr b 0 2 w1 hrd1).mono ?_
  rintro e w2 ⟨rfl, hrd2, hon2⟩
  have hb2 : Below w.heap.size w w2 := below_only' hb1 hgr hon2
  have hrow : rowOf b = rk (cntOf b) (nm b 0 2).1 (nm b 0 2).2.1 := rfl
  have hdec : decF b = if cntOf b ≤ 512 ∧ endOf (rowOf b).1 (rowOf b).2.1 = 0 then some (rowOf b).2.2 else none := rfl
  have hcnt : (nm b 0 2).2.2 = cntOf b := rfl
  rw [hcnt]
  obtain ⟨q, hq⟩ : ∃ q, q = cntOf b := ⟨_, rfl⟩
  obtain ⟨l1, hl1⟩ : ∃ l1, l1 = (nm b 0 2).1 := ⟨_, rfl⟩
  obtain ⟨e1, he1⟩ : ∃ e1, e1 = (nm b 0 2).2.1 := ⟨_, rfl⟩
  rw [← hq] at hrow hdec ⊢
  rw [← hl1, ← he1] at hrow hrd2
  rw [hrow] at hdec
  have HDEC := Lib.hid hdec
  clear hrow hdec hcnt hq hl1 he1 hrd1
  by_cases hq512 : q ≤ 512
  · go_wp2_with fail
    refine (new_any q hq512 w2).mono ?_
    rintro e w3 ⟨rfl, hc3, hb3⟩
    have hh3 := hc3.head
    rw [List.length_replicate] at hh3
    have hrd3 := hrd2.only hb3
    have hgrl := hrd2.lt
    obtain ⟨B, hB⟩ : ∃ B, B = w2.heap.size := ⟨_, rfl⟩
    rw [← hB] at hc3 hh3 hgrl ⊢
    have hb03 : Below w.heap.size w w3 := hb2.trans (hb3.mono hb2.size)
    have hBw : w.heap.size ≤ B := by rw [hB]; exact hb2.size
    clear hB hb3
    go_wp2_with fail
    go_loopw [23] (fun i wr => ∃ k : Nat, k ≤ q ∧ i = .int .i64 k ∧ Rd wr gr (rk k l1 e1).1 (rk k l1 e1).2.1 ∧ Cnt wr B (B + 1) (some ⟨B, 0, none⟩) q ((rk k l1 e1).2.2 ++ List.replicate (q - k) 0) ∧ Below w.heap.size w wr) (fun i _ => q - (intOf i).toNat)
    case atStart => exact ⟨0, Nat.zero_le _, rfl, hrd3, hc3, hb03⟩
    case round =>
      obtain ⟨k, hk, rfl, hrd, hc, hb⟩ := hrel
      have hkl := rk_length k l1 e1
      by_cases hlt : k < q
      · have hhw := hc.head
        have hlen : ((rk k l1 e1).2.2 ++ List.replicate (q - k) (0 : Int)).length = q := by rw [List.length_append, List.length_replicate, hkl]; omega
        rw [hlen] at hhw
        have hR := fun (u : World) (h : Rd u gr (rk k l1 e1).1 (rk k l1 e1).2.1) => rnum_any gr (rk k l1 e1).1 (rk k l1 e1).2.1 2 u h
        have hrk : rk (k + 1) l1 e1 = ((nm (rk k l1 e1).1 (rk k l1 e1).2.1 2).1, (nm (rk k l1 e1).1 (rk k l1 e1).2.1 2).2.1, (rk k l1 e1).2.2 ++ [((nm (rk k l1 e1).1 (rk k l1 e1).2.1 2).2.2 : Int)]) := rfl
        obtain ⟨t, ht⟩ : ∃ t, t = rk k l1 e1 := ⟨_, rfl⟩
        rw [← ht] at hrd hc hkl hlen hR hrk
        obtain ⟨lk, ek, vs⟩ := t
        obtain ⟨u, hu⟩ : ∃ u, u = nm lk ek 2 := ⟨_, rfl⟩
        simp only [← hu] at hR hrk
        obtain ⟨l2, e2, x⟩ := u
        simp only at hrd hc hkl hlen hR hrk
        have HRK := Lib.hid hrk
        have HR := Lib.hid hR
        clear ht hu hrk hR hlen
        go_wp2_with fail
        refine wp_region_seqS ((fun u => u.cell? ⟨B + 1, 0, none⟩ = some (.slice (some ⟨B, 0, none⟩) q q))) (.take 0 .copy (.take 4 .copy (.take 5 .copy (.fork 1 (.take 2 .addr (.hold 3 (.alone 6 (.take 7 .addr (.alone 8 .fin))))) 6 (.alone 1 (.take 2 .addr (.hold 3 (.take 7 .addr (.alone 8 .fin))))))))) (by kernel_rfl) (by kernel_rfl) (by kernel_rfl) ?_ ?_
        · exact hhw
        simp only [preS, nxtS, List.getElem?_toArray, List.getElem?_cons_zero, List.getElem?_cons_succ, opAt, ghosts, List.nil_append]
        go_wp2_with fail
        refine next_fork ?_ ?_
        · go_wp2_with fail
          refine nextS hhw ?_
          go_wp2_with fail
          refine next_hold (.slice (some ⟨B, 0, none⟩) q q) rfl (hold_cell _ _ rfl ⟨B + 1, 0, none⟩ rfl _ _ (fun u h => h) rfl Try.underlying22) ?_
          go_wp2_with fail
          refine (HR.out _ hrd.drew).mono ?_
          rintro e w4 ⟨rfl, hrd4, hon4⟩
          obtain ⟨v, hv1, hv2, hv3, hv4, hc5, hrd5, hb5⟩ := dec_step (x := (x : Int)) hc.drew hkl hlt hrd4 hgrl hon4
          go_wp2_with fail
          refine nextS hv3 ?_
          go_wp2_with fail
          refine nextS hv4 ?_
          go_wp2_with fail
          refine ends_normal ?_
          go_wp2_with fail
          go_roundw
          case rel => exact ⟨k + 1, by omega, by go_num, by rw [HRK.out]; exact hrd5, by rw [HRK.out]; exact hc5, hb5 w hb.drew hgr⟩
          case measure => simp [intOf]; omega
        · go_wp2_with fail
          refine (HR.out _ hrd.drew).mono ?_
          rintro e w4 ⟨rfl, hrd4, hon4⟩
          obtain ⟨v, hv1, hv2, hv3, hv4, hc5, hrd5, hb5⟩ := dec_step (x := (x : Int)) hc.drew hkl hlt hrd4 hgrl hon4
          go_wp2_with fail
          refine nextS hv3 ?_
          go_wp2_with fail
          refine nextS hv3 ?_
          go_wp2_with fail
          refine next_hold (.slice (some ⟨B, 0, none⟩) q q) rfl (hold_cell _ _ rfl ⟨B + 1, 0, none⟩ rfl _ _ (fun u h => h) rfl Try.underlying22) ?_
          go_wp2_with fail
          refine nextS hv4 ?_
          go_wp2_with fail
          refine ends_normal ?_
          go_wp2_with fail
          go_roundw
          case rel => exact ⟨k + 1, by omega, by go_num, by rw [HRK.out]; exact hrd5, by rw [HRK.out]; exact hc5, hb5 w hb.drew hgr⟩
          case measure => simp [intOf]; omega
      · obtain rfl : k = q := by omega
        rw [Nat.sub_self, List.replicate_zero, List.append_nil] at hc
        obtain ⟨t, ht⟩ : ∃ t, t = rk k l1 e1 := ⟨_, rfl⟩
        rw [← ht] at hrd hc HDEC
        clear ht
        obtain ⟨l2, e2, vs⟩ := t
        simp only at hrd hc HDEC
        go_wp2_with fail
        refine (end_any gr l2 e2 wr hrd).mono ?_
        rintro e w4 ⟨rfl, rfl⟩
        by_cases hend : endOf l2 e2 = 0
        · have HE := Lib.hid hend
          rw [hend]
          clear hend
          go_wp2_with fail
          go_ret2
          exact ⟨.inr ⟨vs, _, _, _, by rw [HDEC.out, if_pos ⟨hq512, HE.out⟩], rfl, ⟨hc.blk, hc.own.less hBw, by omega⟩⟩, hb⟩
        · obtain ⟨z, hz⟩ : ∃ z, z = endOf l2 e2 := ⟨_, rfl⟩
          rw [← hz] at hend ⊢
          have HZ := Lib.hid hz
          clear hz
          have hz1 : (z != 0) = true := by simpa using hend
          have HE := Lib.hid hend
          clear hend
          go_wp2_with fail
          go_ret2
          exact ⟨.inl ⟨by rw [HDEC.out, if_neg (fun h => HE.out (HZ.out.trans h.2))], rfl⟩, hb⟩
  · go_wp2_with fail
    refine (bad_new (.inr (by omega)) w2).mono ?_
    rintro e w3 ⟨rfl, rfl⟩
    go_wp2_with fail
    go_ret2
    exact ⟨.inl ⟨by rw [HDEC.out, if_neg (fun h => hq512 h.1)], rfl⟩, hb2⟩
end Go.Proofs.Ytjkklndpfmemhaa
