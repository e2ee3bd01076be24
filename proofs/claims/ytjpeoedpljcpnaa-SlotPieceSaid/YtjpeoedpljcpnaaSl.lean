/- Slots in memory; arguments that are slots; slot.Right, slot.Writes, pentimentoref06.Right. No condition. -/
import Derived.Test.YtjpeoedpljcpnaaStruct
import Derived.Test.YtjpeoedpljcpnaaChecked
import Derived.Test.YtjpeoedpljcpnaaSlP
import Derived.Lib.SmallJoins
namespace Go.Proofs.Ytjpeoedpljcpnaa
open Go.RowKit Go.ChangeShapes Go.WideShapes Go.Deep

def Sl.cells (p : Sl) : List Value := [.int .i64 p.k, .int .i64 p.h, .bool p.o]
def scells (ps : List Sl) : List Value := ps.flatMap Sl.cells
def Sl.dat {H : Type} (p : Sl) : DataW H := .agg [.lit (.int .i64 p.k), .lit (.int .i64 p.h), .lit (.bool p.o)]
theorem scells_snoc (ps : List Sl) (p : Sl) : scells (ps ++ [p]) = scells ps ++ p.cells := by simp [scells]
theorem scells_append (a b : List Sl) : scells (a ++ b) = scells a ++ scells b := by simp [scells]
theorem scells_nil : scells [] = [] := rfl
theorem scells_one (ps : List Sl) : ∀ u ∈ scells ps, u.oneCell' = true := by
  intro u hu
  obtain ⟨p, _, hp⟩ := List.mem_flatMap.1 hu
  simp only [Sl.cells, List.mem_cons, List.not_mem_nil, or_false] at hp
  rcases hp with rfl | rfl | rfl <;> rfl
theorem scells_length (ps : List Sl) : (scells ps).length = ps.length * 3 := by
  unfold scells
  induction ps with
  | nil => rfl
  | cons p ps ih =>
    rw [List.flatMap_cons, List.length_append, ih, List.length_cons]
    show 3 + _ = _
    omega
theorem scells_at {ps : List Sl} {i j : Nat} (hi : i < ps.length) (hj : j < 3) : (scells ps)[i * 3 + j]? = (ps[i].cells)[j]? := by
  unfold scells
  induction ps generalizing i with
  | nil => simp at hi
  | cons p ps ih =>
    rw [List.flatMap_cons]
    have h4 : p.cells.length = 3 := rfl
    cases i with
    | zero => rw [List.getElem?_append_left (by omega)]; simp
    | succ i =>
      rw [List.getElem?_append_right (by omega), h4, show (i + 1) * 3 + j - 3 = i * 3 + j by omega, ih (by simpa using hi)]
      rfl
theorem scells_take (ps : List Sl) (n : Nat) : (scells ps).take (n * 3) = scells (ps.take n) := by
  induction ps generalizing n with
  | nil => simp [scells]
  | cons p ps ih =>
    cases n with
    | zero => simp [scells]
    | succ n =>
      rw [List.take_succ_cons]
      unfold scells at ih ⊢
      rw [List.flatMap_cons, List.flatMap_cons, List.take_append, ← ih n]
      have h4 : p.cells.length = 3 := rfl
      rw [h4, List.take_of_length_le (by omega), show (n + 1) * 3 - 3 = n * 3 by omega]
/-- One slot's three cells. -/
theorem Row.slot {w : World} {A : Option Addr} {ps : List Sl} (h : Row w A (scells ps)) {i : Nat} (hi : i < ps.length) : ∃ g o, A = some ⟨g, o, none⟩ ∧ g < w.heap.size ∧
    w.cell? ⟨g, o + i * 3, none⟩ = some (.int .i64 ps[i].k) ∧ w.cell? ⟨g, o + i * 3 + 1, none⟩ = some (.int .i64 ps[i].h) ∧ w.cell? ⟨g, o + i * 3 + 2, none⟩ = some (.bool ps[i].o) := by
  obtain ⟨g, o, hA, hg, hc⟩ := h.at_ (by rw [scells_length]; omega)
  have at_ : ∀ j, j < 3 → ∀ v, ps[i].cells[j]? = some v → w.cell? ⟨g, o + i * 3 + j, none⟩ = some v := fun j hj v hv => by
    rw [Nat.add_assoc]
    exact hc _ _ ((scells_at hi hj).trans hv)
  exact ⟨g, o, hA, hg, at_ 0 (by omega) _ rfl, at_ 1 (by omega) _ rfl, at_ 2 (by omega) _ rfl⟩
theorem Blk.three {w : World} {g : Nat} {t : TypeId} {a b c : Value} (h : Blk w g t #[a, b, c]) : (w.cell? ⟨g, 0, none⟩ = some a ∧ w.cell? ⟨g, 1, none⟩ = some b ∧ w.cell? ⟨g, 2, none⟩ = some c) ∧ (w.frozen? ⟨g, 0, none⟩ = false ∧ w.frozen? ⟨g, 1, none⟩ = false ∧ w.frozen? ⟨g, 2, none⟩ = false) ∧ g < w.heap.size :=
  ⟨⟨h.cell 0, h.cell 1, h.cell 2⟩, ⟨h.frozen 0, h.frozen 1, h.frozen 2⟩, h.lt⟩

section
variable {H : Type} {enc : TypeId × Value → H} {W : World} {base b0 : Nat} {r : Reach} {v : Value} {d : DataW H} {q : List MemPlace}

theorem open_slot (hval : Value.okWide Try.prog W r b0 23 v) (h : DataW.Trod enc Try.prog W base (fun _ => true) true 23 v d q) :
    ∃ s : Sl, v = .agg #[.int .i64 s.k, .int .i64 s.h, .bool s.o] ∧ -9223372036854775808 ≤ s.k ∧ s.k ≤ 9223372036854775807 ∧ -9223372036854775808 ≤ s.h ∧ s.h ≤ 9223372036854775807 := by
  obtain ⟨v0, v1, v2, y0, y1, y2, n, rfl, _, _, t0, t1, t2⟩ := Go.Joins.open_agg3 Try.underlying23 (by kernel_rfl) (by kernel_rfl) hval h
  obtain ⟨k, hk, _, wk⟩ := DataW.trod_int Try.underlying3 t0
  obtain ⟨hh, hhh, _, wh⟩ := DataW.trod_int Try.underlying3 t1
  obtain ⟨o, ho, _⟩ := DataW.trod_bool Try.underlying4 t2
  simp only [List.cons.injEq, and_true] at hk hhh ho
  subst hk hhh ho
  simp [Lit.wf, IntKind.min, IntKind.max, IntKind.signed, IntKind.bits] at wk wh
  exact ⟨⟨k, hh, o⟩, rfl, wk.1, wk.2, wh.1, wh.2⟩

theorem open_slots (hval : Value.okWide Try.prog W r b0 39 v) (h : DataW.Trod enc Try.prog W base (fun _ => true) true 39 v d q)
    (hw : ∀ x ∈ DataW.weights Try.prog 39 d, x ≤ reachBytes) :
    ∃ A n c ps, v = .slice A n c ∧ ps.length = n ∧ Row W A (scells ps) ∧ n ≤ c ∧ n ≤ 140737488355328 ∧ ∀ s ∈ ps, -9223372036854775808 ≤ s.h ∧ s.h ≤ 9223372036854775807 := by
  obtain ⟨A, n, c, rfl, hnc, hc, h0 | ⟨g, o, rfl, D, spare, rfl, hD⟩⟩ := open_structs Try.underlying39 Try.underlying23 (by kernel_rfl) (by kernel_rfl) (by decide) hval h
  · subst h0
    exact ⟨A, 0, c, [], rfl, rfl, .inl rfl, hnc, Nat.zero_le _, fun s hs => by cases hs⟩
  · have hex : ∀ i, i < n → ∃ p : Sl, (-9223372036854775808 ≤ p.h ∧ p.h ≤ 9223372036854775807) ∧ ∀ j u, p.cells[j]? = some u → W.cell? ⟨g, o + (i * 3 + j), none⟩ = some u := by
      intro i hi
      obtain ⟨ys, m, hDi, hyl, hf⟩ := hD i hi
      obtain ⟨u0, y0, c0, e0, t0⟩ := hf 0 _ rfl
      obtain ⟨u1, y1, c1, e1, t1⟩ := hf 1 _ rfl
      obtain ⟨u2, y2, c2, e2, t2⟩ := hf 2 _ rfl
      obtain ⟨k, hk, hyk, _⟩ := DataW.trod_int Try.underlying3 t0
      obtain ⟨wd, hwd, hyw, wwd⟩ := DataW.trod_int Try.underlying3 t1
      obtain ⟨nn, hn, hyn⟩ := DataW.trod_bool Try.underlying4 t2
      simp only [List.cons.injEq, and_true] at hk hwd hn
      subst hk hwd hn
      match ys, hyl with
      | [z0, z1, z2], _ =>
        simp only [List.getElem?_cons_zero, List.getElem?_cons_succ, Option.some.injEq] at e0 e1 e2
        subst e0 e1 e2
        refine ⟨⟨k, wd, nn⟩, ?_, fun j u hu => ?_⟩
        · simpa [Lit.wf, IntKind.min, IntKind.max, IntKind.signed, IntKind.bits] using wwd
        · match j, hu with
          | 0, hu => cases hu; exact c0
          | 1, hu => cases hu; exact c1
          | 2, hu => cases hu; exact c2
    obtain ⟨ps, hpl, hps⟩ := choose_list n hex
    have hn47 : n ≤ 140737488355328 := by
      have h5 := hw _ (by simp only [DataW.weights, Try.underlying39]; exact List.mem_cons_self ..)
      rw [show Try.prog.bytesOf 23 = 24 by kernel_rfl] at h5
      simp only [List.length_map, List.length_range, reachBytes] at h5
      omega
    refine ⟨some ⟨g, o, none⟩, n, c, ps, rfl, hpl, .inr ⟨g, o, rfl, fun j u hu => ?_⟩, hnc, hn47, ?_⟩
    · have hjl : j < ps.length * 3 := by
        have := (List.getElem?_eq_some_iff.1 hu).1
        rwa [scells_length] at this
      have hi : j / 3 < ps.length := by omega
      have hj : j = j / 3 * 3 + j % 3 := by omega
      rw [hj, scells_at hi (by omega)] at hu
      have := (hps _ hi).2 _ _ hu
      rw [hj]
      exact this
    · intro s hs
      obtain ⟨i, hi, rfl⟩ := List.getElem_of_mem hs
      exact (hps i hi).1
end

set_option maxHeartbeats 1000000 in
theorem sRight_any (s : Sl) (w : World) :
    Calls Try.prog 14 #[.agg #[.int .i64 s.k, .int .i64 s.h, .bool s.o]] w fun e w' => e = .returned (.bool s.right) ∧ Below w.heap.size w w' := by
  obtain ⟨k, h, o⟩ := s
  have hb := (Below.refl w.heap.size w).alloc (Nat.le_refl _) (.cells #[.int .i64 k, .int .i64 h, .bool o] 29)
  by_cases hk : k = 1
  · subst hk
    by_cases h0 : 0 ≤ h
    · by_cases h1 : h < 512
      · go_enter Try.func14, Try.ntmps14
        go_wp2_with fail
        go_ret
        exact ⟨ret_bool (by simp [Sl.right, h0, h1]), hb⟩
      · go_enter Try.func14, Try.ntmps14
        go_wp2_with fail
        go_ret
        exact ⟨ret_bool (by simp [Sl.right]; omega), hb⟩
    · go_enter Try.func14, Try.ntmps14
      go_wp2_with fail
      go_ret
      exact ⟨ret_bool (by simp [Sl.right]; omega), hb⟩
  · have hk1 : (k == 1) = false := by simpa using hk
    go_enter Try.func14, Try.ntmps14
    go_wp2_with fail
    all_goals
      go_ret
      exact ⟨ret_bool (by simp_all [Sl.right]), (Below.refl _ _).alloc (Nat.le_refl _) _⟩

theorem sWrites_any (s : Sl) (w : World) :
    Calls Try.prog 16 #[.agg #[.int .i64 s.k, .int .i64 s.h, .bool s.o]] w fun e w' => e = .returned (.bool (decide (s.k = 1) && s.o)) ∧ Below w.heap.size w w' := by
  obtain ⟨k, h, o⟩ := s
  by_cases hk : k = 1
  · subst hk
    go_enter Try.func16, Try.ntmps16
    go_wp2_with fail
    go_ret
    exact ⟨ret_bool (by simp), (Below.refl _ _).alloc (Nat.le_refl _) _⟩
  · have hk1 : (k == 1) = false := by simpa using hk
    go_enter Try.func16, Try.ntmps16
    go_wp2_with fail
    go_ret
    exact ⟨ret_bool (by simp [hk]), (Below.refl _ _).alloc (Nat.le_refl _) _⟩

set_option maxHeartbeats 1000000 in
theorem rRight6_any (s : Sl) (w : World) :
    Calls Try.prog 15 #[.agg #[.int .i64 s.k, .int .i64 s.h, .bool s.o]] w fun e w' => e = .returned (.bool s.right) ∧ Below w.heap.size w w' := by
  obtain ⟨k, h, o⟩ := s
  by_cases hk : k = 1
  · subst hk
    by_cases h0 : 0 ≤ h
    · by_cases h1 : h < 512
      · go_enter Try.func15, Try.ntmps15
        go_wp2_with fail
        go_ret
        exact ⟨ret_bool (by simp [Sl.right, h0, h1]), (Below.refl _ _).alloc (Nat.le_refl _) _⟩
      · go_enter Try.func15, Try.ntmps15
        go_wp2_with fail
        go_ret
        exact ⟨ret_bool (by simp [Sl.right]; omega), (Below.refl _ _).alloc (Nat.le_refl _) _⟩
    · go_enter Try.func15, Try.ntmps15
      go_wp2_with fail
      go_ret
      exact ⟨ret_bool (by simp [Sl.right]; omega), (Below.refl _ _).alloc (Nat.le_refl _) _⟩
  · by_cases hk0 : k = 0
    · subst hk0
      by_cases hh : h = 0
      · subst hh
        go_enter Try.func15, Try.ntmps15
        go_wp2_with fail
        go_ret
        exact ⟨ret_bool (by simp [Sl.right]), (Below.refl _ _).alloc (Nat.le_refl _) _⟩
      · have hh1 : (h == 0) = false := by simpa using hh
        go_enter Try.func15, Try.ntmps15
        go_wp2_with fail
        go_ret
        exact ⟨ret_bool (by simp [Sl.right, hh]), (Below.refl _ _).alloc (Nat.le_refl _) _⟩
    · by_cases hk2 : k = 2
      · subst hk2
        by_cases hh : h = 0
        · subst hh
          go_enter Try.func15, Try.ntmps15
          go_wp2_with fail
          go_ret
          exact ⟨ret_bool (by simp [Sl.right]), (Below.refl _ _).alloc (Nat.le_refl _) _⟩
        · have hh1 : (h == 0) = false := by simpa using hh
          go_enter Try.func15, Try.ntmps15
          go_wp2_with fail
          go_ret
          exact ⟨ret_bool (by simp [Sl.right, hh]), (Below.refl _ _).alloc (Nat.le_refl _) _⟩
      · have e0 : (k == 0) = false := by simpa using hk0
        have e1 : (k == 1) = false := by simpa using hk
        have e2 : (k == 2) = false := by simpa using hk2
        go_enter Try.func15, Try.ntmps15
        go_wp2_with fail
        go_ret
        exact ⟨ret_bool (by simp [Sl.right, hk, hk0, hk2]), (Below.refl _ _).alloc (Nat.le_refl _) _⟩
end Go.Proofs.Ytjpeoedpljcpnaa
