/- A slice of calls on counts that came in, in the words of the walks. No condition. -/
import Derived.Test.YtjkklndpfmemhaaStruct
import Derived.Test.YtjkklndpfmemhaaChecked
namespace Go.Proofs.Ytjkklndpfmemhaa
open Go.RowKit Go.ChangeShapes Go.WideShapes Go.Deep

theorem Blk.three {w : World} {g : Nat} {t : TypeId} {a b c : Value} (h : Blk w g t #[a, b, c]) : (w.cell? ⟨g, 0, none⟩ = some a ∧ w.cell? ⟨g, 1, none⟩ = some b ∧ w.cell? ⟨g, 2, none⟩ = some c) ∧ g < w.heap.size :=
  ⟨⟨h.cell 0, h.cell 1, h.cell 2⟩, h.lt⟩

structure Op7 where
  k : Int
  h : Int
  n : Int

def Op7.cells (p : Op7) : List Value := [.int .i64 p.k, .int .i64 p.h, .int .i64 p.n]
def ocells (ps : List Op7) : List Value := ps.flatMap Op7.cells
def Op7.dat {H : Type} (p : Op7) : DataW H := .agg [.lit (.int .i64 p.k), .lit (.int .i64 p.h), .lit (.int .i64 p.n)]

theorem ocells_length (ps : List Op7) : (ocells ps).length = ps.length * 3 := by
  unfold ocells
  induction ps with
  | nil => rfl
  | cons p ps ih =>
    rw [List.flatMap_cons, List.length_append, ih, List.length_cons]
    show 3 + _ = _
    omega
theorem ocells_at {ps : List Op7} {i j : Nat} (hi : i < ps.length) (hj : j < 3) : (ocells ps)[i * 3 + j]? = (ps[i].cells)[j]? := by
  unfold ocells
  induction ps generalizing i with
  | nil => simp at hi
  | cons p ps ih =>
    rw [List.flatMap_cons]
    have h4 : p.cells.length = 3 := rfl
    cases i with
    | zero => rw [List.getElem?_append_left (by omega)]; simp
    | succ i =>
      rw [List.getElem?_append_right (by omega), h4, show (i + 1) * 3 + j - 3 = i * 3 + j by omega, ih (by simpa using hi)]
      rfl
/-- One part's four cells. -/
theorem Row.op {w : World} {A : Option Addr} {ps : List Op7} (h : Row w A (ocells ps)) {i : Nat} (hi : i < ps.length) : ∃ g o, A = some ⟨g, o, none⟩ ∧ g < w.heap.size ∧
    w.cell? ⟨g, o + i * 3, none⟩ = some (.int .i64 ps[i].k) ∧ w.cell? ⟨g, o + i * 3 + 1, none⟩ = some (.int .i64 ps[i].h) ∧ w.cell? ⟨g, o + i * 3 + 2, none⟩ = some (.int .i64 ps[i].n) := by
  obtain ⟨g, o, hA, hg, hc⟩ := h.at_ (by rw [ocells_length]; omega)
  have at_ : ∀ j, j < 3 → ∀ v, ps[i].cells[j]? = some v → w.cell? ⟨g, o + i * 3 + j, none⟩ = some v := fun j hj v hv => by
    rw [Nat.add_assoc]
    exact hc _ _ ((ocells_at hi hj).trans hv)
  exact ⟨g, o, hA, hg, at_ 0 (by omega) _ rfl, at_ 1 (by omega) _ rfl, at_ 2 (by omega) _ rfl⟩

section
variable {H : Type} {enc : TypeId × Value → H} {W : World} {base b0 : Nat} {r : Reach} {v : Value} {d : DataW H} {q : List MemPlace}

theorem open_ops (hval : Value.okWide Try.prog W r b0 33 v) (h : DataW.Trod enc Try.prog W base (fun _ => true) true 33 v d q)
    (hw : ∀ x ∈ DataW.weights Try.prog 33 d, x ≤ reachBytes) :
    ∃ A n c ps, v = .slice A n c ∧ ps.length = n ∧ Row W A (ocells ps) ∧ n ≤ c ∧ n ≤ 140737488355328 ∧ (n = 0 ∨ ∃ spare, d = .slice (ps.map Op7.dat) spare) := by
  obtain ⟨A, n, c, rfl, hnc, hc, h0 | ⟨g, o, rfl, D, spare, rfl, hD⟩⟩ := open_structs Try.underlying33 Try.underlying37 (by kernel_rfl) (by kernel_rfl) (by decide) hval h
  · subst h0
    exact ⟨A, 0, c, [], rfl, rfl, .inl rfl, hnc, Nat.zero_le _, .inl rfl⟩
  · have hex : ∀ i, i < n → ∃ p : Op7, D i = p.dat ∧ ∀ j u, p.cells[j]? = some u → W.cell? ⟨g, o + (i * 3 + j), none⟩ = some u := by
      intro i hi
      obtain ⟨ys, m, hDi, hyl, hf⟩ := hD i hi
      obtain ⟨u0, y0, c0, e0, t0⟩ := hf 0 _ rfl
      obtain ⟨u1, y1, c1, e1, t1⟩ := hf 1 _ rfl
      obtain ⟨u2, y2, c2, e2, t2⟩ := hf 2 _ rfl
      obtain ⟨k, hk, hyk, _⟩ := DataW.trod_int Try.underlying3 t0
      obtain ⟨wd, hwd, hyw, _⟩ := DataW.trod_int Try.underlying3 t1
      obtain ⟨nn, hn, hyn, _⟩ := DataW.trod_int Try.underlying3 t2
      simp only [List.cons.injEq, and_true] at hk hwd hn
      subst hk hwd hn
      match ys, hyl with
      | [z0, z1, z2], _ =>
        simp only [List.getElem?_cons_zero, List.getElem?_cons_succ, Option.some.injEq] at e0 e1 e2
        subst e0 e1 e2
        refine ⟨⟨k, wd, nn⟩, ?_, fun j u hu => ?_⟩
        · rw [hDi, hyk, hyw, hyn]
          rfl
        · match j, hu with
          | 0, hu => cases hu; exact c0
          | 1, hu => cases hu; exact c1
          | 2, hu => cases hu; exact c2
    obtain ⟨ps, hpl, hps⟩ := choose_list n hex
    have hn47 : n ≤ 140737488355328 := by
      have h5 := hw _ (by simp only [DataW.weights, Try.underlying33]; exact List.mem_cons_self ..)
      rw [show Try.prog.bytesOf 37 = 24 by kernel_rfl] at h5
      simp only [List.length_map, List.length_range, reachBytes] at h5
      omega
    refine ⟨some ⟨g, o, none⟩, n, c, ps, rfl, hpl, .inr ⟨g, o, rfl, fun j u hu => ?_⟩, hnc, hn47, .inr ⟨spare, ?_⟩⟩
    · have hjl : j < ps.length * 3 := by
        have := (List.getElem?_eq_some_iff.1 hu).1
        rwa [ocells_length] at this
      have hi : j / 3 < ps.length := by omega
      have hj : j = j / 3 * 3 + j % 3 := by omega
      rw [hj, ocells_at hi (by omega)] at hu
      have := (hps _ hi).2 _ _ hu
      rw [hj]
      exact this
    · congr 1
      apply List.ext_getElem
      · simp [hpl]
      · intro i h1 h2
        simp only [List.getElem_map, List.getElem_range]
        exact (hps i (by simpa using h2)).1
end
end Go.Proofs.Ytjkklndpfmemhaa
