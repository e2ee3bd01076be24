/- pentimentolaw13.few, does, made. Conditions: the lengths fit memory; the numbers are int64's. -/
import Derived.Test.YtbljacafmkdlmaaAl13
import Derived.Test.YtbljacafmkdlmaaOpO
import Derived.Test.YtbljacafmkdlmaaRst
namespace Go.Proofs.Ytbljacafmkdlmaa
set_option maxRecDepth 100000
open Go.RowKit
set_option linter.unusedSimpArgs false
set_option linter.unusedVariables false

theorem Sto.apart {w : World} {B : Nat} {f : Fp} {s : St} {g : Nat} {t : TypeId} {cs : Array Value} (h : Sto w B f s) (hb : Blk w g t cs) (h1 : t ≠ 108) (h2 : t ≠ 135) : ¬ Foot f g := by
  rintro (e | e | e | e)
  · exact hb.ne_ h.blk h1 e
  · exact hb.ne_map h.safe e
  · exact hb.ne_map h.seen e
  · exact h.own.blk_ne hb (fun e => h2 e.symm) _ e rfl
theorem doO_len {s : St} (h : s.OK) (o : Opn) : (doO s o).1.l.length ≤ s.l.length + 4096 := by
  unfold doO
  split
  · unfold doW
    split
    · simp
    split
    · simp
    split
    · simp
    · rename_i h2 _
      have hi : insideB s.n o.at_ ((o.b.length / 16 : Nat) : Int) = true := by simpa using h2
      have h3 := insideB_of hi
      have h4 := h.n1
      simp only [List.length_append, chs_length]
      omega
  split
  · simp
  split
  · simp [doF]
  split
  · show (crashL s o.keep).length ≤ _
    unfold crashL
    have h1 := kp_length o.keep (s.l.drop s.k) (s.l.length - s.k)
    have h2 := h.k
    rw [List.length_append, List.length_take]
    omega
  split
  · unfold doZ
    split
    · simp
    · have := List.length_filter_le (fun w : Wrt => decide (w.1 < o.n)) s.l
      simp only [resL]
      omega
  split
  · simp [doR]
  · simp
def FewPost (w : World) (sec : Int) (n : Nat) (e : Ending) (w' : World) : Prop := ∃ fb : Bool, e = .returned (.bool fb) ∧ (fb = true → n ≤ 60 ∧ sec ≤ 40) ∧ Below w.heap.size w w'

set_option maxHeartbeats 4000000 in
theorem few13_any (sec : Int) (A : Option Addr) (n c : Nat) (ps : List Opv) (w : World) (hn : ps.length = n) (hr : Row w A (ocells ps)) (hn47 : n ≤ 140737488355328) (hg : ∀ p ∈ ps, p.o.b.length ≤ 140737488355328 ∧ p.o.keep.length ≤ 140737488355328) :
    Calls Try.prog 32 #[.int .i64 sec, .slice A n c] w (FewPost w sec n) := by
  have HN := Lib.hid hn
  have HG := Lib.hid hg
  clear hn hg
  go_enter Try.func32, Try.ntmps32
  go_wp2_with fail
  go_loopw [5, 10] (fun v i wr => ∃ (j : Nat) (z : Int), j ≤ n ∧ i = .int .i64 j ∧ v = .int .i64 z ∧ Below w.heap.size w wr) (fun _ i _ => n - (intOf i).toNat)
  case atStart => exact ⟨0, 0, Nat.zero_le _, rfl, rfl, Below.refl _ _⟩
  case round =>
    obtain ⟨j, z, hj, rfl, rfl, hbel⟩ := hrel
    have hs := hbel.size
    by_cases hlt : j < n
    · have hjl : j < ps.length := by rw [HN.out]; exact hlt
      have hrr := hr.below hbel
      obtain ⟨g, o, rfl, hg, c0, c1, c2, c3, c4⟩ := hrr.opv hjl
      have hgood := HG.out ps[j] (List.getElem_mem hjl)
      obtain ⟨p, hp⟩ : ∃ p, p = ps[j] := ⟨_, rfl⟩
      rw [← hp] at c0 c1 c2 c3 c4 hgood
      clear hp hrr
      have hba : ∀ ob, Below w.heap.size w (wr.alloc ob) := fun ob => hbel.alloc hs ob
      go_wp2_with fail
      go_roundw
      case rel => exact ⟨j + 1, _, by omega, by go_num, rfl, hba _⟩
      case measure => simp [intOf]; omega
    · obtain rfl : j = n := by omega
      by_cases h60 : j ≤ 60
      · by_cases hz : z ≤ 5000
        · by_cases hs1 : sec ≤ 40
          · go_wp2_with fail
            go_ret
            exact ⟨_, rfl, (fun _ => ⟨h60, hs1⟩), hbel⟩
          · go_wp2_with fail
            go_ret
            exact ⟨_, rfl, (fun h => by simp at h), hbel⟩
        · go_wp2_with fail
          go_ret
          exact ⟨_, rfl, (fun h => by simp at h), hbel⟩
      · go_wp2_with fail
        go_ret
        exact ⟨_, rfl, (fun h => by simp at h), hbel⟩

def DoesPost13 (w : World) (B : Nat) (f : Fp) (s : St) (e : Ending) (w' : World) : Prop :=
  ∃ f' x, e = .returned (.int .i64 x) ∧ Sto w' B f' s ∧ Turned w w' f f'

set_option maxHeartbeats 4000000 in
theorem does13_any (B : Nat) (f : Fp) (s : St) (o : Opn) (D : Option Addr) (q cb : Nat) (K : Option Addr) (p ck : Nat) (w : World) (h : Sto w B f s) (hsz : s.l.length + 4096 ≤ 5000000000000)
    (hq : o.b.length = q) (hqc : q ≤ cb) (hqm : q ≤ 9000000000000000000) (hrb : Away w D (bv o.b) (Foot f)) (hp : o.keep.length = p) (hpm : p ≤ 9000000000000000000) (hrk : Away w K (iv o.keep) (Foot f))
    (ho : o.kind = 0 ∨ o.kind = 2 ∨ o.kind = 3) :
    Calls Try.prog 33 #[.pointer (some ⟨f.g, 0, none⟩), .agg #[.int .i64 o.kind, .int .i64 o.at_, .int .i64 o.n, .slice D q cb, .slice K p ck]] w (DoesPost13 w B f (doO s o).1) := by
  have hb0 : Below w.heap.size w (w.alloc (.cells #[.int .i64 o.kind, .int .i64 o.at_, .int .i64 o.n, .slice D q cb, .slice K p ck] 45)) := (Below.refl _ _).alloc (Nat.le_refl _) _
  have h1 := h.alloc (.cells #[.int .i64 o.kind, .int .i64 o.at_, .int .i64 o.n, .slice D q cb, .slice K p ck] 45)
  have hrb1 := hrb.below hb0
  have hrk1 := hrk.below hb0
  have hG := Blk.new w 45 #[.int .i64 o.kind, .int .i64 o.at_, .int .i64 o.n, .slice D q cb, .slice K p ck]
  obtain ⟨d0, d1, d2, d3, d4⟩ := hG.five
  obtain ⟨dd, hdd⟩ : ∃ dd, dd = (doO s o).1 := ⟨_, rfl⟩
  rw [← hdd]
  have HDD := Lib.hid hdd
  have HB0 := Lib.hid hb0
  clear hdd hG
  rcases ho with hk | hk | hk
  · have he : (doO s o).1 = (doW s o.at_ o.b).1 := by unfold doO; rw [if_pos hk]
    have HE := Lib.hid he
    have hcall := write_any B f s _ h1 o.at_ D q cb o.b hq hqc (by omega) hrb1 hsz
    have HC := Lib.hid hcall
    clear he hcall h h1 hrb hrk hrb1 hrk1 hq hp hb0
    go_enter Try.func33, Try.ntmps33
    rw [hk] at HC HB0
    go_wp2_with fail
    refine HC.out.mono ?_
    rintro e w2 ⟨f', rfl, hs2, ht2⟩
    go_wp2_with fail
    go_ret
    rw [HDD.out, HE.out]
    exact ⟨f', _, rfl, hs2, ht2.after HB0.out⟩
  · have he : (doO s o).1 = doF s := by unfold doO; rw [if_neg (by omega), if_neg (by omega), if_pos hk]
    have HE := Lib.hid he
    have hcall := flush_any B f s _ h1
    have HC := Lib.hid hcall
    clear he hcall h h1 hrb hrk hrb1 hrk1 hq hp hb0
    go_enter Try.func33, Try.ntmps33
    rw [hk] at HC HB0
    go_wp2_with fail
    refine HC.out.mono ?_
    rintro e w2 ⟨f', rfl, hs2, ht2⟩
    go_wp2_with fail
    go_ret
    rw [HDD.out, HE.out]
    exact ⟨f', _, rfl, hs2, ht2.after HB0.out⟩
  · have he : (doO s o).1 = doC s o.keep := by unfold doO; rw [if_neg (by omega), if_neg (by omega), if_neg (by omega), if_pos hk]
    have HE := Lib.hid he
    have hcall := crash_any B f s _ h1 K p ck o.keep hp hrk1 (by omega)
    have HC := Lib.hid hcall
    clear he hcall h h1 hrb hrk hrb1 hrk1 hq hp hb0
    go_enter Try.func33, Try.ntmps33
    rw [hk] at HC HB0
    go_wp2_with fail
    refine HC.out.mono ?_
    rintro e w2 ⟨f', rfl, hs2, ht2⟩
    go_wp2_with fail
    go_ret
    rw [HDD.out, HE.out]
    exact ⟨f', _, rfl, hs2, ht2.after HB0.out⟩

/-- None of these calls turns how many sectors there are. -/
theorem doO_n {s : St} (o : Opn) (h : ¬ o.kind = 4) : (doO s o).1.n = s.n := by
  unfold doO
  split
  · unfold doW
    (repeat' split) <;> rfl
  split
  · rfl
  split
  · rfl
  split
  · rfl
  split
  · rfl
  · rfl

theorem results_tmp_row_tmp {P : Program} {fn : Func} {p u v : Tmp} {ty : TypeId} (h : fn.results = #[.tmp u, .cell p ty, .tmp v]) (tmps : Array Value) (w : World) (g : Nat) (t : TypeId) (cs : Array Value) (fr : Nat × Nat) (d : TypeDesc)
    (hp : tmps.getD p undef = .pointer (some ⟨g, 0, none⟩)) (hg : w.heap[g]? = some (.cells cs t fr))
    (hu : P.underlying ty = some d) (hd : (match d with | .struct _ | .array _ _ => true | _ => false) = true) (hi : (P.info? ty).map (·.size) = some cs.size) :
    (results fn tmps).run P w = .ok (.tuple #[tmps.getD u undef, .agg cs, tmps.getD v undef]) w := by
  have hp' : tmps[p]?.getD undef = .pointer (some ⟨g, 0, none⟩) := by simpa using hp
  simp [results, h, hp', asAddr, run_loadVar_row w g t ty cs fr d hg hu hd hi]

/-- What made answers: no store, or one, and the document's. -/
def MadePost (w : World) (sec : Int) (n : Nat) (e : Ending) (w' : World) : Prop :=
  Below w.heap.size w w' ∧ ((e = .returned (.tuple #[.pointer none, .agg #[.int .i64 sec, .int .i64 1000, .slice none 0 0, .int .i64 0], .bool false])) ∨
    ∃ (f : Fp) (s : St) (A : Option Addr) (m c : Nat), e = .returned (.tuple #[.pointer (some ⟨f.g, 0, none⟩), .agg #[.int .i64 s.n, .int .i64 s.room, .slice A m c, .int .i64 s.k], .bool true]) ∧ Sto w' w.heap.size f s ∧ s.n = sec ∧ s.l.length = m ∧ m ≤ 4096 * n ∧ Away w' A (rcells s.l) (Foot f) ∧ n ≤ 60 ∧ sec ≤ 40)

set_option maxHeartbeats 16000000 in
theorem made13_any (sec : Int) (S : Option Addr) (n c : Nat) (ps : List Opv) (w : World) (hn : ps.length = n) (hr : Row w S (ocells ps)) (hn47 : n ≤ 140737488355328) (hg : ∀ p ∈ ps, Opv.Good w p) :
    Calls Try.prog 9 #[.int .i64 sec, .slice S n c] w (MadePost w sec n) := by
  have HN := Lib.hid hn
  have HG := Lib.hid hg
  have hK5 := Blk.new w 27 #[.int .i64 0, .int .i64 0, .slice none 0 0, .int .i64 0]
  have hb0 : Below w.heap.size w (w.alloc (.cells #[.int .i64 0, .int .i64 0, .slice none 0 0, .int .i64 0] 27)) := (Below.refl _ _).alloc (Nat.le_refl _) _
  obtain ⟨g5, hg5⟩ : ∃ g5, g5 = w.heap.size := ⟨_, rfl⟩
  rw [← hg5] at hK5
  have hg5w : w.heap.size ≤ g5 := by omega
  obtain ⟨w0, hw0⟩ : ∃ w0, w0 = w.alloc (.cells #[.int .i64 0, .int .i64 0, .slice none 0 0, .int .i64 0] 27) := ⟨_, rfl⟩
  rw [← hw0] at hb0 hK5
  have HW0 := Lib.hid hw0
  have HG5 := Lib.hid hg5
  clear hw0 hg5
  go_enter Try.func9, Try.ntmps9
  go_upto_region 1 with fail
  rw [← HW0.out, ← HG5.out]
  clear HW0
  by_cases hmay : 0 ≤ sec ∧ sec ≤ 4096
  rotate_left
  · have hm : mayN sec 1000 = false := by
      unfold mayN
      rw [Bool.eq_false_iff]
      intro h
      simp only [Bool.and_eq_true, decide_eq_true_eq] at h
      exact hmay h.1
    have hnw := fun u => new_no sec 1000 u (fun h => hmay h.1)
    have hrn := fun u => rNew_any sec 1000 u
    simp only [hm] at hrn
    clear hm hmay hn hg
    go_wp2_with fail
    refine (hnw _).mono ?_
    rintro e w2 ⟨rfl, rfl⟩
    go_wp2_with fail
    refine (hrn _).mono ?_
    rintro e w3 ⟨rfl, hb3⟩
    have hb03 := below_all hb0 hb3
    have hne59 : w3.heap.size ≠ g5 := by have := hb3.size; have := hK5.lt; omega
    have hK5 := (hK5.belowAll hb3).alloc (.cells #[.int .i64 sec, .int .i64 1000, .slice none 0 0, .int .i64 0] 27)
    have hK9 := Blk.new w3 27 #[.int .i64 sec, .int .i64 1000, .slice none 0 0, .int .i64 0]
    obtain ⟨g9, hg9⟩ : ∃ g9, g9 = w3.heap.size := ⟨_, rfl⟩
    rw [← hg9] at hK9 hne59
    have hb3 := hb03.alloc hb03.size (.cells #[.int .i64 sec, .int .i64 1000, .slice none 0 0, .int .i64 0] 27)
    obtain ⟨w4, hw4⟩ : ∃ w4, w4 = w3.alloc (.cells #[.int .i64 sec, .int .i64 1000, .slice none 0 0, .int .i64 0] 27) := ⟨_, rfl⟩
    rw [← hw4] at hb3 hK5 hK9
    have HW4 := Lib.hid hw4
    have HG9 := Lib.hid hg9
    clear hw4 hg9
    go_upto_region 3 with fail
    rw [← HW4.out, ← HG9.out]
    clear HW4
    go_upto_region 4 with fail
    have hK9d := hK9.drew
    have hK5d := hK5.drew
    have hbd := hb3.drew
    refine wp_region_seqS ((fun u => Blk u g9 27 #[.int .i64 sec, .int .i64 1000, .slice none 0 0, .int .i64 0])) (.hold 0 (.take 1 .copy (.alone 2 (.take 3 .copy .fin)))) (by kernel_rfl) (by kernel_rfl) (by kernel_rfl) ?_ ?_
    · exact hK9d
    simp only [preS, nxtS, List.getElem?_toArray, List.getElem?_cons_zero, List.getElem?_cons_succ, opAt, ghosts, List.nil_append, gInt, ghost, List.cons_append]
    obtain ⟨wd, hwd⟩ : ∃ wd, wd = w4.drew := ⟨_, rfl⟩
    rw [← hwd] at hK9d hK5d hbd ⊢
    clear hwd
    obtain ⟨⟨i0, i1, i2, i3⟩, z0, z1, z2, z3⟩ := hK5d.four
    have hk9F := (((hK9d.far (p := ⟨g5, 0, none⟩) hne59 (.int .i64 sec)).far (p := ⟨g5, 1, none⟩) hne59 (.int .i64 1000)).far (p := ⟨g5, 2, none⟩) hne59 (.slice none 0 0)).far (p := ⟨g5, 3, none⟩) hne59 (.int .i64 0)
    go_wp2_with fail
    refine next_hold (.agg #[.int .i64 sec, .int .i64 1000, .slice none 0 0, .int .i64 0]) rfl (hold_row 27 _ rfl g9 rfl 27 #[.int .i64 sec, .int .i64 1000, .slice none 0 0, .int .i64 0] _ (fun u h => h) Try.underlying27 rfl (rst_info _ _ _ _)) ?_
    go_wp2_with fail
    refine nextS hk9F ?_
    go_wp2_with fail
    refine ends_normal ?_
    go_wp2_with fail
    refine bodyPost_ret (results_tmp_row_tmp rfl _ _ _ 27 _ (0, 0) _ rfl (show Blk _ _ _ #[.int .i64 sec, .int .i64 1000, .slice none 0 0, .int .i64 0] from (((hK5d.set_ 0 _).set_ 1 _).set_ 2 _).set_ 3 _) Try.underlying27 rfl (rst_info _ _ _ _)) rfl ?_
    exact ⟨(((hbd.setCell (p := ⟨g5, 0, none⟩) hg5w _).setCell (p := ⟨g5, 1, none⟩) hg5w _).setCell (p := ⟨g5, 2, none⟩) hg5w _).setCell (p := ⟨g5, 3, none⟩) hg5w _, .inl rfl⟩
  have hm : mayN sec 1000 = true := by
    unfold mayN
    simp only [Bool.and_eq_true, decide_eq_true_eq]
    exact ⟨hmay, by omega⟩
  have hnw := fun u => new_yes sec 1000 u ⟨hmay, by omega⟩
  have hrn := fun u => rNew_any sec 1000 u
  simp only [hm] at hrn
  clear hm hn
  go_wp2_with fail
  refine (hnw _).mono ?_
  rintro e w2 ⟨f, rfl, hs2, hb2⟩
  have hs2 := hs2.less (B' := w.heap.size) hb0.size
  have hb02 := below_all hb0 hb2
  have hK52 := hK5.belowAll hb2
  clear hK5
  go_wp2_with fail
  refine (hrn _).mono ?_
  rintro e w3 ⟨rfl, hb3⟩
  have hs3 := (hs2.below hb3).alloc (.cells #[.int .i64 sec, .int .i64 1000, .slice none 0 0, .int .i64 0] 27)
  have hb03 := below_all hb02 hb3
  have hsz3 := hb03.size
  have hK5 := (hK52.belowAll hb3).alloc (.cells #[.int .i64 sec, .int .i64 1000, .slice none 0 0, .int .i64 0] 27)
  have hK9 := Blk.new w3 27 #[.int .i64 sec, .int .i64 1000, .slice none 0 0, .int .i64 0]
  have hne59 : w3.heap.size ≠ g5 := by have := hK52.lt; have := hb3.size; omega
  have hlt59 : g5 < w3.heap.size := by have := hK52.lt; have := hb3.size; omega
  have hb3' := hb03.alloc hb03.size (.cells #[.int .i64 sec, .int .i64 1000, .slice none 0 0, .int .i64 0] 27)
  obtain ⟨g9, hg9⟩ : ∃ g9, g9 = w3.heap.size := ⟨_, rfl⟩
  rw [← hg9] at hK9 hne59 hlt59
  have hg9w : w.heap.size ≤ g9 := by omega
  obtain ⟨w4, hw4⟩ : ∃ w4, w4 = w3.alloc (.cells #[.int .i64 sec, .int .i64 1000, .slice none 0 0, .int .i64 0] 27) := ⟨_, rfl⟩
  rw [← hw4] at hb3' hK5 hK9 hs3
  have HW4 := Lib.hid hw4
  have HG9 := Lib.hid hg9
  have hr4 := hr.below hb3'
  have hfw := few13_any sec S n c ps w4 HN.out hr4 hn47 (fun p hp => ⟨(HG.out p hp).lb, (HG.out p hp).lk⟩)
  clear hw4 hg9 hnw hrn hs2 hb2 hb02 hb3 hb03 hsz3 hK52 hb0 hmay hg hr4
  go_upto_region 3 with fail
  rw [← HW4.out, ← HG9.out]
  clear HW4
  go_wp2_with fail
  refine hfw.mono ?_
  rintro e w5 ⟨fb, rfl, hfb, hb5⟩
  have hb3 := below_all hb3' hb5
  have hs5 := hs3.below hb5
  have hK9 := hK9.belowAll hb5
  have hK5 := hK5.belowAll hb5
  clear hfw hb5 hs3 hb3'
  cases fb
  · clear hfb hs5
    go_upto_region 4 with fail
    have hK9d := hK9.drew
    have hK5d := hK5.drew
    have hbd := hb3.drew
    refine wp_region_seqS ((fun u => Blk u g9 27 #[.int .i64 sec, .int .i64 1000, .slice none 0 0, .int .i64 0])) (.hold 0 (.take 1 .copy (.alone 2 (.take 3 .copy .fin)))) (by kernel_rfl) (by kernel_rfl) (by kernel_rfl) ?_ ?_
    · exact hK9d
    simp only [preS, nxtS, List.getElem?_toArray, List.getElem?_cons_zero, List.getElem?_cons_succ, opAt, ghosts, List.nil_append, gInt, ghost, List.cons_append]
    obtain ⟨wd, hwd⟩ : ∃ wd, wd = w5.drew := ⟨_, rfl⟩
    rw [← hwd] at hK9d hK5d hbd ⊢
    clear hwd
    obtain ⟨⟨i0, i1, i2, i3⟩, z0, z1, z2, z3⟩ := hK5d.four
    have hk9F := (((hK9d.far (p := ⟨g5, 0, none⟩) hne59 (.int .i64 sec)).far (p := ⟨g5, 1, none⟩) hne59 (.int .i64 1000)).far (p := ⟨g5, 2, none⟩) hne59 (.slice none 0 0)).far (p := ⟨g5, 3, none⟩) hne59 (.int .i64 0)
    go_wp2_with fail
    refine next_hold (.agg #[.int .i64 sec, .int .i64 1000, .slice none 0 0, .int .i64 0]) rfl (hold_row 27 _ rfl g9 rfl 27 #[.int .i64 sec, .int .i64 1000, .slice none 0 0, .int .i64 0] _ (fun u h => h) Try.underlying27 rfl (rst_info _ _ _ _)) ?_
    go_wp2_with fail
    refine nextS hk9F ?_
    go_wp2_with fail
    refine ends_normal ?_
    go_wp2_with fail
    refine bodyPost_ret (results_tmp_row_tmp rfl _ _ _ 27 _ (0, 0) _ rfl (show Blk _ _ _ #[.int .i64 sec, .int .i64 1000, .slice none 0 0, .int .i64 0] from (((hK5d.set_ 0 _).set_ 1 _).set_ 2 _).set_ 3 _) Try.underlying27 rfl (rst_info _ _ _ _)) rfl ?_
    exact ⟨(((hbd.setCell (p := ⟨g5, 0, none⟩) hg5w _).setCell (p := ⟨g5, 1, none⟩) hg5w _).setCell (p := ⟨g5, 2, none⟩) hg5w _).setCell (p := ⟨g5, 3, none⟩) hg5w _, .inl rfl⟩
  have hfew := hfb rfl
  have HFEW := Lib.hid hfew
  have hn60 := hfew.1
  clear hfb hfew
  go_wp2_with fail
  go_loopw [45] (fun i wr => ∃ (j : Nat) (s : St) (A' : Option Addr) (m' c' : Nat) (f' : Fp), j ≤ n ∧ i = .int .i64 j ∧ f'.g = f.g ∧ Sto wr w.heap.size f' s ∧ s.n = sec ∧ Blk wr g9 27 #[.int .i64 s.n, .int .i64 s.room, .slice A' m' c', .int .i64 s.k] ∧ Blk wr g5 27 #[.int .i64 0, .int .i64 0, .slice none 0 0, .int .i64 0] ∧ s.l.length = m' ∧ m' ≤ 4096 * j ∧ Away wr A' (rcells s.l) (Foot f') ∧ (rcells s.l ≠ [] → ∀ a, A' = some a → g9 < a.block) ∧ Below w.heap.size w wr)
    (fun i _ => n - (intOf i).toNat)
  case atStart => exact ⟨0, ⟨sec, 1000, [], 0⟩, none, 0, 0, f, Nat.zero_le _, rfl, rfl, hs5, rfl, hK9, hK5, rfl, Nat.zero_le _, ⟨Row.nil _ _, fun h => absurd rfl h⟩, fun h => absurd rfl h, hb3⟩
  case round =>
    obtain ⟨j, s, A', m', c', f', hj, rfl, hfg, hs, hsn, hK9r, hK5r, hlm, hm4, hA, hA9, hbr⟩ := hrel
    have HSN := Lib.hid hsn
    clear hs5 hK9 hK5 hb3 hsn
    by_cases hlt : j < n
    · have hjl : j < ps.length := by rw [HN.out]; exact hlt
      have hrr := hr.below hbr
      obtain ⟨g, o, rfl, hgw, c0, c1, c2, c3, c4⟩ := hrr.opv hjl
      have hgood := HG.out ps[j] (List.getElem_mem hjl)
      obtain ⟨p, hp⟩ : ∃ p, p = ps[j] := ⟨_, rfl⟩
      rw [← hp] at c0 c1 c2 c3 c4 hgood
      clear hp hrr
      obtain ⟨⟨kd, oa, on, ob, okp⟩, D, dc, K, kc⟩ := p
      simp only at c0 c1 c2 c3 c4
      have g1 : ob.length ≤ dc := hgood.hb
      have g2 : ob.length ≤ 140737488355328 := hgood.lb
      have g3 : okp.length ≤ 140737488355328 := hgood.lk
      have g4 : on ≤ 9223372036854775807 := hgood.in_.2
      have G5 := Lib.hid hgood.ik
      have hrD : Row w D (bv ob) := hgood.rb
      have hrK : Row w K (iv okp) := hgood.rk
      clear hgood
      have hs1 := hs.alloc (.cells #[.int .i64 kd, .int .i64 oa, .int .i64 on, .slice D ob.length dc, .slice K okp.length kc] 45)
      have h121 := Blk.new wr 45 #[.int .i64 kd, .int .i64 oa, .int .i64 on, .slice D ob.length dc, .slice K okp.length kc]
      have hK91 := hK9r.alloc (.cells #[.int .i64 kd, .int .i64 oa, .int .i64 on, .slice D ob.length dc, .slice K okp.length kc] 45)
      have hK51 := hK5r.alloc (.cells #[.int .i64 kd, .int .i64 oa, .int .i64 on, .slice D ob.length dc, .slice K okp.length kc] 45)
      have hA1 := hA.below ((Below.refl _ wr).alloc (Nat.le_refl _) (.cells #[.int .i64 kd, .int .i64 oa, .int .i64 on, .slice D ob.length dc, .slice K okp.length kc] 45))
      have hb1 := hbr.alloc hbr.size (.cells #[.int .i64 kd, .int .i64 oa, .int .i64 on, .slice D ob.length dc, .slice K okp.length kc] 45)
      have hl9 := hK9r.lt
      by_cases hk : kd = 0 ∨ kd = 2 ∨ kd = 3
      rotate_left
      · have hk0 : ¬ kd = 0 := fun h => hk (.inl h)
        have hk2 : ¬ kd = 2 := fun h => hk (.inr (.inl h))
        have hk3 : ¬ kd = 3 := fun h => hk (.inr (.inr h))
        clear hk
        have HA9 := Lib.hid hA9
        clear hA9
        have hq0 : (kd == 0) = false := by simpa using hk0
        have hq2 : (kd == 2) = false := by simpa using hk2
        have hq3 : (kd == 3) = false := by simpa using hk3
        go_wp2_with fail
        go_roundw
        case rel => exact ⟨j + 1, s, A', m', c', f', by omega, by go_num, hfg, hs1, HSN.out, hK91, hK51, hlm, by omega, hA1, HA9.out, hb1⟩
        case measure => simp [intOf]; omega
      have hsz4 : m' + 4096 ≤ 5000000000000 := by omega
      have hok0 := hs.ok
      have HLM := Lib.hid hlm
      have HA9 := Lib.hid hA9
      obtain ⟨g12, hg12⟩ : ∃ g12, g12 = wr.heap.size := ⟨_, rfl⟩
      rw [← hg12] at h121
      have hne912 : g9 ≠ g12 := by omega
      obtain ⟨w1, hw1⟩ : ∃ w1, w1 = wr.alloc (.cells #[.int .i64 kd, .int .i64 oa, .int .i64 on, .slice D ob.length dc, .slice K okp.length kc] 45) := ⟨_, rfl⟩
      rw [← hw1] at hs1 h121 hK91 hK51 hA1 hb1
      have HW1 := Lib.hid hw1
      have HG12 := Lib.hid hg12
      have hDoe := does13_any w.heap.size f' s ⟨kd, oa, on, ob, okp⟩ D ob.length dc K okp.length kc w1 hs1 (by rw [hlm]; omega) rfl g1 (by show ob.length ≤ _; omega) (Away.of hrD hs1 (Nat.le_refl _) hb1) rfl (by show okp.length ≤ _; omega) (Away.of hrK hs1 (Nat.le_refl _) hb1) hk
      have hDo := fun u (hu : Row u A' (rcells s.l)) (hb : Below w.heap.size w u) => rDo_any s ⟨kd, oa, on, ob, okp⟩ A' m' c' D ob.length dc K okp.length kc u hok0 hlm hu hsz4 rfl g1 (by show ob.length ≤ _; omega) (hrD.below hb) rfl (by show okp.length ≤ _; omega) (hrK.below hb) G5.out g4
      have hlen := doO_len hok0 ⟨kd, oa, on, ob, okp⟩
      have hdn := doO_n (s := s) ⟨kd, oa, on, ob, okp⟩ (by show ¬ kd = 4; omega)
      obtain ⟨⟨⟨sn, sr, sl, sk⟩, x, er⟩, hxe⟩ : ∃ r, r = doO s ⟨kd, oa, on, ob, okp⟩ := ⟨_, rfl⟩
      rw [← hxe] at hDoe hlen hdn
      simp only [← hxe] at hDo
      simp only at hDoe hDo hlen hdn
      rw [hfg] at hDoe
      have HDN := Lib.hid (hdn.trans HSN.out)
      have HDO := Lib.hid hDo
      clear hxe hs hK9r hK5r hA hA9 hlm hok0 hDo hdn hw1 hg12 hrD hrK g1 g2 g3 g4 hbr hl9
      rcases hk with rfl | rfl | rfl
      · go_upto_region 8 with fail
        rw [← HW1.out, ← HG12.out]
        clear HW1
        obtain ⟨k0, k1, k2, k3, k4⟩ := h121.five
        clear c0 c1 c2 c3 c4
        go_wp2_with fail
        refine hDoe.mono ?_
        rintro e w2 ⟨f2, y, rfl, hs2, ht2⟩
        have hfg2 : f2.g = f.g := ht2.same.trans hfg
        have hK92 := hK91.only ht2.only (hs1.apart hK91 (by decide) (by decide))
        have hK52 := hK51.only ht2.only (hs1.apart hK51 (by decide) (by decide))
        have h122 := h121.only ht2.only (hs1.apart h121 (by decide) (by decide))
        have hA2 := hA1.turned ht2
        have hb2 := hb1.trans (ht2.belowB hs1)
        clear hDoe ht2 hs1 hK91 hK51 h121 hA1 hb1 k0 k1 k2 k3 k4 hfg
        have hDo := HDO.out w2 hA2.row hb2
        obtain ⟨k0, k1, k2, k3, k4⟩ := h122.five
        obtain ⟨⟨i0, i1, i2, i3⟩, _⟩ := hK92.four
        go_wp2_with fail
        refine hDo.mono ?_
        rintro e w3' ⟨A4, m4, c4', rfl, hl4, hrn4, hb4⟩
        clear hDo k0 k1 k2 k3 k4 i0 i1 i2 i3 h122
        simp only at hl4 hrn4
        have hA4 := hrn4.away hA2 hs2
        have hA49 : rcells sl ≠ [] → ∀ a, A4 = some a → g9 < a.block := by
          obtain ⟨_, ⟨rfl, rfl⟩ | h2⟩ := hrn4
          · exact HA9.out
          · intro hx a ha
            have := h2 hx a ha
            have := hK92.lt
            omega
        have HA49 := Lib.hid hA49
        have hs4 := (hs2.below hb4).alloc (.cells #[.int .i64 sn, .int .i64 sr, .slice A4 m4 c4', .int .i64 sk] 27)
        have hA5 := hA4.below ((Below.refl _ w3').alloc (Nat.le_refl _) (.cells #[.int .i64 sn, .int .i64 sr, .slice A4 m4 c4', .int .i64 sk] 27))
        have hne13 : g9 ≠ w3'.heap.size := by have := hb4.size; have := hK92.lt; omega
        have hK95 := (hK92.belowAll hb4).alloc (.cells #[.int .i64 sn, .int .i64 sr, .slice A4 m4 c4', .int .i64 sk] 27)
        have hK55 := (hK52.belowAll hb4).alloc (.cells #[.int .i64 sn, .int .i64 sr, .slice A4 m4 c4', .int .i64 sk] 27)
        have h13 := Blk.new w3' 27 #[.int .i64 sn, .int .i64 sr, .slice A4 m4 c4', .int .i64 sk]
        have hb5 := below_all hb2 hb4
        have hb5 := hb5.alloc hb5.size (.cells #[.int .i64 sn, .int .i64 sr, .slice A4 m4 c4', .int .i64 sk] 27)
        have hn9 := hs4.apart hK95 (by decide) (by decide)
        clear hA2 hs2 hK92 hK52 hb2 hrn4 hb4 hA4 hA49
        obtain ⟨w5', hw5⟩ : ∃ w5', w5' = w3'.alloc (.cells #[.int .i64 sn, .int .i64 sr, .slice A4 m4 c4', .int .i64 sk] 27) := ⟨_, rfl⟩
        have HW5 := Lib.hid hw5
        rw [← hw5] at hs4 hA5 hK95 hK55 h13 hb5
        clear hw5
        obtain ⟨⟨i0, i1, i2, i3⟩, z0, z1, z2, z3⟩ := hK95.four
        obtain ⟨⟨l0, l1, l2, l3⟩, _⟩ := h13.four
        have ho9 : Only w5' ((((w5'.setCell ⟨g9, 0, none⟩ (.int .i64 sn)).setCell ⟨g9, 1, none⟩ (.int .i64 sr)).setCell ⟨g9, 2, none⟩ (.slice A4 m4 c4')).setCell ⟨g9, 3, none⟩ (.int .i64 sk)) (fun i => i = g9) :=
          ((((Only.refl w5' (fun i => i = g9)).setCell (p := ⟨g9, 0, none⟩) (.inl rfl) _).setCell (p := ⟨g9, 1, none⟩) (.inl rfl) _).setCell (p := ⟨g9, 2, none⟩) (.inl rfl) _).setCell (p := ⟨g9, 3, none⟩) (.inl rfl) _
        have hs6 := hs4.only ho9 (fun k hk e => hn9 (e ▸ hk))
        have hK96 : Blk ((((w5'.setCell ⟨g9, 0, none⟩ (.int .i64 sn)).setCell ⟨g9, 1, none⟩ (.int .i64 sr)).setCell ⟨g9, 2, none⟩ (.slice A4 m4 c4')).setCell ⟨g9, 3, none⟩ (.int .i64 sk)) g9 27 #[.int .i64 sn, .int .i64 sr, .slice A4 m4 c4', .int .i64 sk] := (((hK95.set_ 0 _).set_ 1 _).set_ 2 _).set_ 3 _
        have hK56 := hK55.only ho9 (fun e => hne59 e.symm)
        have hA6 : Away ((((w5'.setCell ⟨g9, 0, none⟩ (.int .i64 sn)).setCell ⟨g9, 1, none⟩ (.int .i64 sr)).setCell ⟨g9, 2, none⟩ (.slice A4 m4 c4')).setCell ⟨g9, 3, none⟩ (.int .i64 sk)) A4 (rcells sl) (Foot f2) := by
          refine ⟨?_, hA5.2⟩
          by_cases hx : rcells sl = []
          · rw [hx]; exact Row.nil _ _
          · exact hA5.1.only ho9 (fun a ha e => by have := HA49.out hx a ha; omega)
        have hb6 : Below w.heap.size w ((((w5'.setCell ⟨g9, 0, none⟩ (.int .i64 sn)).setCell ⟨g9, 1, none⟩ (.int .i64 sr)).setCell ⟨g9, 2, none⟩ (.slice A4 m4 c4')).setCell ⟨g9, 3, none⟩ (.int .i64 sk)) :=
          (((hb5.setCell (p := ⟨g9, 0, none⟩) hg9w _).setCell (p := ⟨g9, 1, none⟩) hg9w _).setCell (p := ⟨g9, 2, none⟩) hg9w _).setCell (p := ⟨g9, 3, none⟩) hg9w _
        have hlen9 : sl.length = m4 := hl4
        go_upto_region 11 with fail
        rw [← HW5.out]
        clear HW5
        go_upto_region 12 with fail
        obtain ⟨w6, hw6⟩ : ∃ w6, w6 = ((((w5'.setCell ⟨g9, 0, none⟩ (.int .i64 sn)).setCell ⟨g9, 1, none⟩ (.int .i64 sr)).setCell ⟨g9, 2, none⟩ (.slice A4 m4 c4')).setCell ⟨g9, 3, none⟩ (.int .i64 sk)) := ⟨_, rfl⟩
        rw [← hw6] at hs6 hK96 hK56 hA6 hb6 ho9 ⊢
        clear hw6 i0 i1 i2 i3 z0 z1 z2 z3 l0 l1 l2 l3 ho9 hs4 hA5 hK95 hK55 h13 hb5
        have HL9 := Lib.hid hlen9
        have hm9 : m4 ≤ 4096 * (j + 1) := by have h2 := HLM.out; omega
        clear hlen9 hl4 hlen
        go_wp2_with fail
        go_roundw
        case rel => exact ⟨j + 1, ⟨sn, sr, sl, sk⟩, A4, m4, c4', f2, by omega, by go_num, hfg2, hs6, HDN.out, hK96, hK56, HL9.out, hm9, hA6, HA49.out, hb6⟩
        case measure => simp [intOf]; omega
      · go_upto_region 8 with fail
        rw [← HW1.out, ← HG12.out]
        clear HW1
        obtain ⟨k0, k1, k2, k3, k4⟩ := h121.five
        clear c0 c1 c2 c3 c4
        go_wp2_with fail
        refine hDoe.mono ?_
        rintro e w2 ⟨f2, y, rfl, hs2, ht2⟩
        have hfg2 : f2.g = f.g := ht2.same.trans hfg
        have hK92 := hK91.only ht2.only (hs1.apart hK91 (by decide) (by decide))
        have hK52 := hK51.only ht2.only (hs1.apart hK51 (by decide) (by decide))
        have h122 := h121.only ht2.only (hs1.apart h121 (by decide) (by decide))
        have hA2 := hA1.turned ht2
        have hb2 := hb1.trans (ht2.belowB hs1)
        clear hDoe ht2 hs1 hK91 hK51 h121 hA1 hb1 k0 k1 k2 k3 k4 hfg
        have hDo := HDO.out w2 hA2.row hb2
        obtain ⟨k0, k1, k2, k3, k4⟩ := h122.five
        obtain ⟨⟨i0, i1, i2, i3⟩, _⟩ := hK92.four
        go_wp2_with fail
        refine hDo.mono ?_
        rintro e w3' ⟨A4, m4, c4', rfl, hl4, hrn4, hb4⟩
        clear hDo k0 k1 k2 k3 k4 i0 i1 i2 i3 h122
        simp only at hl4 hrn4
        have hA4 := hrn4.away hA2 hs2
        have hA49 : rcells sl ≠ [] → ∀ a, A4 = some a → g9 < a.block := by
          obtain ⟨_, ⟨rfl, rfl⟩ | h2⟩ := hrn4
          · exact HA9.out
          · intro hx a ha
            have := h2 hx a ha
            have := hK92.lt
            omega
        have HA49 := Lib.hid hA49
        have hs4 := (hs2.below hb4).alloc (.cells #[.int .i64 sn, .int .i64 sr, .slice A4 m4 c4', .int .i64 sk] 27)
        have hA5 := hA4.below ((Below.refl _ w3').alloc (Nat.le_refl _) (.cells #[.int .i64 sn, .int .i64 sr, .slice A4 m4 c4', .int .i64 sk] 27))
        have hne13 : g9 ≠ w3'.heap.size := by have := hb4.size; have := hK92.lt; omega
        have hK95 := (hK92.belowAll hb4).alloc (.cells #[.int .i64 sn, .int .i64 sr, .slice A4 m4 c4', .int .i64 sk] 27)
        have hK55 := (hK52.belowAll hb4).alloc (.cells #[.int .i64 sn, .int .i64 sr, .slice A4 m4 c4', .int .i64 sk] 27)
        have h13 := Blk.new w3' 27 #[.int .i64 sn, .int .i64 sr, .slice A4 m4 c4', .int .i64 sk]
        have hb5 := below_all hb2 hb4
        have hb5 := hb5.alloc hb5.size (.cells #[.int .i64 sn, .int .i64 sr, .slice A4 m4 c4', .int .i64 sk] 27)
        have hn9 := hs4.apart hK95 (by decide) (by decide)
        clear hA2 hs2 hK92 hK52 hb2 hrn4 hb4 hA4 hA49
        obtain ⟨w5', hw5⟩ : ∃ w5', w5' = w3'.alloc (.cells #[.int .i64 sn, .int .i64 sr, .slice A4 m4 c4', .int .i64 sk] 27) := ⟨_, rfl⟩
        have HW5 := Lib.hid hw5
        rw [← hw5] at hs4 hA5 hK95 hK55 h13 hb5
        clear hw5
        obtain ⟨⟨i0, i1, i2, i3⟩, z0, z1, z2, z3⟩ := hK95.four
        obtain ⟨⟨l0, l1, l2, l3⟩, _⟩ := h13.four
        have ho9 : Only w5' ((((w5'.setCell ⟨g9, 0, none⟩ (.int .i64 sn)).setCell ⟨g9, 1, none⟩ (.int .i64 sr)).setCell ⟨g9, 2, none⟩ (.slice A4 m4 c4')).setCell ⟨g9, 3, none⟩ (.int .i64 sk)) (fun i => i = g9) :=
          ((((Only.refl w5' (fun i => i = g9)).setCell (p := ⟨g9, 0, none⟩) (.inl rfl) _).setCell (p := ⟨g9, 1, none⟩) (.inl rfl) _).setCell (p := ⟨g9, 2, none⟩) (.inl rfl) _).setCell (p := ⟨g9, 3, none⟩) (.inl rfl) _
        have hs6 := hs4.only ho9 (fun k hk e => hn9 (e ▸ hk))
        have hK96 : Blk ((((w5'.setCell ⟨g9, 0, none⟩ (.int .i64 sn)).setCell ⟨g9, 1, none⟩ (.int .i64 sr)).setCell ⟨g9, 2, none⟩ (.slice A4 m4 c4')).setCell ⟨g9, 3, none⟩ (.int .i64 sk)) g9 27 #[.int .i64 sn, .int .i64 sr, .slice A4 m4 c4', .int .i64 sk] := (((hK95.set_ 0 _).set_ 1 _).set_ 2 _).set_ 3 _
        have hK56 := hK55.only ho9 (fun e => hne59 e.symm)
        have hA6 : Away ((((w5'.setCell ⟨g9, 0, none⟩ (.int .i64 sn)).setCell ⟨g9, 1, none⟩ (.int .i64 sr)).setCell ⟨g9, 2, none⟩ (.slice A4 m4 c4')).setCell ⟨g9, 3, none⟩ (.int .i64 sk)) A4 (rcells sl) (Foot f2) := by
          refine ⟨?_, hA5.2⟩
          by_cases hx : rcells sl = []
          · rw [hx]; exact Row.nil _ _
          · exact hA5.1.only ho9 (fun a ha e => by have := HA49.out hx a ha; omega)
        have hb6 : Below w.heap.size w ((((w5'.setCell ⟨g9, 0, none⟩ (.int .i64 sn)).setCell ⟨g9, 1, none⟩ (.int .i64 sr)).setCell ⟨g9, 2, none⟩ (.slice A4 m4 c4')).setCell ⟨g9, 3, none⟩ (.int .i64 sk)) :=
          (((hb5.setCell (p := ⟨g9, 0, none⟩) hg9w _).setCell (p := ⟨g9, 1, none⟩) hg9w _).setCell (p := ⟨g9, 2, none⟩) hg9w _).setCell (p := ⟨g9, 3, none⟩) hg9w _
        have hlen9 : sl.length = m4 := hl4
        go_upto_region 11 with fail
        rw [← HW5.out]
        clear HW5
        go_upto_region 12 with fail
        obtain ⟨w6, hw6⟩ : ∃ w6, w6 = ((((w5'.setCell ⟨g9, 0, none⟩ (.int .i64 sn)).setCell ⟨g9, 1, none⟩ (.int .i64 sr)).setCell ⟨g9, 2, none⟩ (.slice A4 m4 c4')).setCell ⟨g9, 3, none⟩ (.int .i64 sk)) := ⟨_, rfl⟩
        rw [← hw6] at hs6 hK96 hK56 hA6 hb6 ho9 ⊢
        clear hw6 i0 i1 i2 i3 z0 z1 z2 z3 l0 l1 l2 l3 ho9 hs4 hA5 hK95 hK55 h13 hb5
        have HL9 := Lib.hid hlen9
        have hm9 : m4 ≤ 4096 * (j + 1) := by have h2 := HLM.out; omega
        clear hlen9 hl4 hlen
        go_wp2_with fail
        go_roundw
        case rel => exact ⟨j + 1, ⟨sn, sr, sl, sk⟩, A4, m4, c4', f2, by omega, by go_num, hfg2, hs6, HDN.out, hK96, hK56, HL9.out, hm9, hA6, HA49.out, hb6⟩
        case measure => simp [intOf]; omega
      · go_upto_region 8 with fail
        rw [← HW1.out, ← HG12.out]
        clear HW1
        obtain ⟨k0, k1, k2, k3, k4⟩ := h121.five
        clear c0 c1 c2 c3 c4
        go_wp2_with fail
        refine hDoe.mono ?_
        rintro e w2 ⟨f2, y, rfl, hs2, ht2⟩
        have hfg2 : f2.g = f.g := ht2.same.trans hfg
        have hK92 := hK91.only ht2.only (hs1.apart hK91 (by decide) (by decide))
        have hK52 := hK51.only ht2.only (hs1.apart hK51 (by decide) (by decide))
        have h122 := h121.only ht2.only (hs1.apart h121 (by decide) (by decide))
        have hA2 := hA1.turned ht2
        have hb2 := hb1.trans (ht2.belowB hs1)
        clear hDoe ht2 hs1 hK91 hK51 h121 hA1 hb1 k0 k1 k2 k3 k4 hfg
        have hDo := HDO.out w2 hA2.row hb2
        obtain ⟨k0, k1, k2, k3, k4⟩ := h122.five
        obtain ⟨⟨i0, i1, i2, i3⟩, _⟩ := hK92.four
        go_wp2_with fail
        refine hDo.mono ?_
        rintro e w3' ⟨A4, m4, c4', rfl, hl4, hrn4, hb4⟩
        clear hDo k0 k1 k2 k3 k4 i0 i1 i2 i3 h122
        simp only at hl4 hrn4
        have hA4 := hrn4.away hA2 hs2
        have hA49 : rcells sl ≠ [] → ∀ a, A4 = some a → g9 < a.block := by
          obtain ⟨_, ⟨rfl, rfl⟩ | h2⟩ := hrn4
          · exact HA9.out
          · intro hx a ha
            have := h2 hx a ha
            have := hK92.lt
            omega
        have HA49 := Lib.hid hA49
        have hs4 := (hs2.below hb4).alloc (.cells #[.int .i64 sn, .int .i64 sr, .slice A4 m4 c4', .int .i64 sk] 27)
        have hA5 := hA4.below ((Below.refl _ w3').alloc (Nat.le_refl _) (.cells #[.int .i64 sn, .int .i64 sr, .slice A4 m4 c4', .int .i64 sk] 27))
        have hne13 : g9 ≠ w3'.heap.size := by have := hb4.size; have := hK92.lt; omega
        have hK95 := (hK92.belowAll hb4).alloc (.cells #[.int .i64 sn, .int .i64 sr, .slice A4 m4 c4', .int .i64 sk] 27)
        have hK55 := (hK52.belowAll hb4).alloc (.cells #[.int .i64 sn, .int .i64 sr, .slice A4 m4 c4', .int .i64 sk] 27)
        have h13 := Blk.new w3' 27 #[.int .i64 sn, .int .i64 sr, .slice A4 m4 c4', .int .i64 sk]
        have hb5 := below_all hb2 hb4
        have hb5 := hb5.alloc hb5.size (.cells #[.int .i64 sn, .int .i64 sr, .slice A4 m4 c4', .int .i64 sk] 27)
        have hn9 := hs4.apart hK95 (by decide) (by decide)
        clear hA2 hs2 hK92 hK52 hb2 hrn4 hb4 hA4 hA49
        obtain ⟨w5', hw5⟩ : ∃ w5', w5' = w3'.alloc (.cells #[.int .i64 sn, .int .i64 sr, .slice A4 m4 c4', .int .i64 sk] 27) := ⟨_, rfl⟩
        have HW5 := Lib.hid hw5
        rw [← hw5] at hs4 hA5 hK95 hK55 h13 hb5
        clear hw5
        obtain ⟨⟨i0, i1, i2, i3⟩, z0, z1, z2, z3⟩ := hK95.four
        obtain ⟨⟨l0, l1, l2, l3⟩, _⟩ := h13.four
        have ho9 : Only w5' ((((w5'.setCell ⟨g9, 0, none⟩ (.int .i64 sn)).setCell ⟨g9, 1, none⟩ (.int .i64 sr)).setCell ⟨g9, 2, none⟩ (.slice A4 m4 c4')).setCell ⟨g9, 3, none⟩ (.int .i64 sk)) (fun i => i = g9) :=
          ((((Only.refl w5' (fun i => i = g9)).setCell (p := ⟨g9, 0, none⟩) (.inl rfl) _).setCell (p := ⟨g9, 1, none⟩) (.inl rfl) _).setCell (p := ⟨g9, 2, none⟩) (.inl rfl) _).setCell (p := ⟨g9, 3, none⟩) (.inl rfl) _
        have hs6 := hs4.only ho9 (fun k hk e => hn9 (e ▸ hk))
        have hK96 : Blk ((((w5'.setCell ⟨g9, 0, none⟩ (.int .i64 sn)).setCell ⟨g9, 1, none⟩ (.int .i64 sr)).setCell ⟨g9, 2, none⟩ (.slice A4 m4 c4')).setCell ⟨g9, 3, none⟩ (.int .i64 sk)) g9 27 #[.int .i64 sn, .int .i64 sr, .slice A4 m4 c4', .int .i64 sk] := (((hK95.set_ 0 _).set_ 1 _).set_ 2 _).set_ 3 _
        have hK56 := hK55.only ho9 (fun e => hne59 e.symm)
        have hA6 : Away ((((w5'.setCell ⟨g9, 0, none⟩ (.int .i64 sn)).setCell ⟨g9, 1, none⟩ (.int .i64 sr)).setCell ⟨g9, 2, none⟩ (.slice A4 m4 c4')).setCell ⟨g9, 3, none⟩ (.int .i64 sk)) A4 (rcells sl) (Foot f2) := by
          refine ⟨?_, hA5.2⟩
          by_cases hx : rcells sl = []
          · rw [hx]; exact Row.nil _ _
          · exact hA5.1.only ho9 (fun a ha e => by have := HA49.out hx a ha; omega)
        have hb6 : Below w.heap.size w ((((w5'.setCell ⟨g9, 0, none⟩ (.int .i64 sn)).setCell ⟨g9, 1, none⟩ (.int .i64 sr)).setCell ⟨g9, 2, none⟩ (.slice A4 m4 c4')).setCell ⟨g9, 3, none⟩ (.int .i64 sk)) :=
          (((hb5.setCell (p := ⟨g9, 0, none⟩) hg9w _).setCell (p := ⟨g9, 1, none⟩) hg9w _).setCell (p := ⟨g9, 2, none⟩) hg9w _).setCell (p := ⟨g9, 3, none⟩) hg9w _
        have hlen9 : sl.length = m4 := hl4
        go_upto_region 11 with fail
        rw [← HW5.out]
        clear HW5
        go_upto_region 12 with fail
        obtain ⟨w6, hw6⟩ : ∃ w6, w6 = ((((w5'.setCell ⟨g9, 0, none⟩ (.int .i64 sn)).setCell ⟨g9, 1, none⟩ (.int .i64 sr)).setCell ⟨g9, 2, none⟩ (.slice A4 m4 c4')).setCell ⟨g9, 3, none⟩ (.int .i64 sk)) := ⟨_, rfl⟩
        rw [← hw6] at hs6 hK96 hK56 hA6 hb6 ho9 ⊢
        clear hw6 i0 i1 i2 i3 z0 z1 z2 z3 l0 l1 l2 l3 ho9 hs4 hA5 hK95 hK55 h13 hb5
        have HL9 := Lib.hid hlen9
        have hm9 : m4 ≤ 4096 * (j + 1) := by have h2 := HLM.out; omega
        clear hlen9 hl4 hlen
        go_wp2_with fail
        go_roundw
        case rel => exact ⟨j + 1, ⟨sn, sr, sl, sk⟩, A4, m4, c4', f2, by omega, by go_num, hfg2, hs6, HDN.out, hK96, hK56, HL9.out, hm9, hA6, HA49.out, hb6⟩
        case measure => simp [intOf]; omega
    · obtain rfl : j = n := by omega
      have HLM := Lib.hid hlm
      have HA9 := Lib.hid hA9
      have HFG := Lib.hid hfg
      clear hlm hA9 hfg
      go_upto_region 13 with fail
      have hK9d := hK9r.drew
      have hK5d := hK5r.drew
      have hbd := hbr.drew
      have hsd := hs.drew
      have hAd := hA.below (Below.refl _ wr).drew
      refine wp_region_seqS ((fun u => Blk u g9 27 #[.int .i64 s.n, .int .i64 s.room, .slice A' m' c', .int .i64 s.k])) (.take 0 .copy (.hold 1 (.take 2 .copy (.alone 3 (.take 4 .copy .fin))))) (by kernel_rfl) (by kernel_rfl) (by kernel_rfl) ?_ ?_
      · exact hK9d
      simp only [preS, nxtS, List.getElem?_toArray, List.getElem?_cons_zero, List.getElem?_cons_succ, opAt, ghosts, List.nil_append, gInt, ghost, List.cons_append]
      obtain ⟨wd, hwd⟩ : ∃ wd, wd = wr.drew := ⟨_, rfl⟩
      rw [← hwd] at hK9d hK5d hbd hsd hAd ⊢
      clear hwd
      obtain ⟨⟨i0, i1, i2, i3⟩, z0, z1, z2, z3⟩ := hK5d.four
      have hk9F := (((hK9d.far (p := ⟨g5, 0, none⟩) hne59 (.int .i64 s.n)).far (p := ⟨g5, 1, none⟩) hne59 (.int .i64 s.room)).far (p := ⟨g5, 2, none⟩) hne59 (.slice A' m' c')).far (p := ⟨g5, 3, none⟩) hne59 (.int .i64 s.k)
      go_wp2_with fail
      refine next_hold (.agg #[.int .i64 s.n, .int .i64 s.room, .slice A' m' c', .int .i64 s.k]) rfl (hold_row 27 _ rfl g9 rfl 27 #[.int .i64 s.n, .int .i64 s.room, .slice A' m' c', .int .i64 s.k] _ (fun u h => h) Try.underlying27 rfl (rst_info _ _ _ _)) ?_
      go_wp2_with fail
      refine nextS hk9F ?_
      go_wp2_with fail
      refine ends_normal ?_
      go_wp2_with fail
      refine bodyPost_ret (results_tmp_row_tmp rfl _ _ _ 27 _ (0, 0) _ rfl (show Blk _ _ _ #[.int .i64 s.n, .int .i64 s.room, .slice A' m' c', .int .i64 s.k] from (((hK5d.set_ 0 _).set_ 1 _).set_ 2 _).set_ 3 _) Try.underlying27 rfl (rst_info _ _ _ _)) rfl ?_
      have hoF : Only wd ((((wd.setCell ⟨g5, 0, none⟩ (.int .i64 s.n)).setCell ⟨g5, 1, none⟩ (.int .i64 s.room)).setCell ⟨g5, 2, none⟩ (.slice A' m' c')).setCell ⟨g5, 3, none⟩ (.int .i64 s.k)) (fun i => i = g5) :=
        ((((Only.refl wd (fun i => i = g5)).setCell (p := ⟨g5, 0, none⟩) (.inl rfl) _).setCell (p := ⟨g5, 1, none⟩) (.inl rfl) _).setCell (p := ⟨g5, 2, none⟩) (.inl rfl) _).setCell (p := ⟨g5, 3, none⟩) (.inl rfl) _
      have hn5 := hsd.apart hK5d (by decide) (by decide)
      refine ⟨(((hbd.setCell (p := ⟨g5, 0, none⟩) hg5w _).setCell (p := ⟨g5, 1, none⟩) hg5w _).setCell (p := ⟨g5, 2, none⟩) hg5w _).setCell (p := ⟨g5, 3, none⟩) hg5w _, .inr ⟨f', s, A', m', c', by rw [HFG.out]; rfl, hsd.only hoF (fun k hk e => hn5 (e ▸ hk)), HSN.out, HLM.out, by omega, ⟨?_, hAd.2⟩, HFEW.out.1, HFEW.out.2⟩⟩
      by_cases hx : rcells s.l = []
      · rw [hx]; exact Row.nil _ _
      · exact hAd.1.only hoF (fun a ha e => by have := HA9.out hx a ha; omega)
end Go.Proofs.Ytbljacafmkdlmaa
