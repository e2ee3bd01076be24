/- A slice of parts that came in, in the words of the walks. No condition. -/
import Derived.Test.YtijogfjihnbmeaaStruct
import Derived.Test.YtijogfjihnbmeaaChecked
namespace Go.Proofs.Ytijogfjihnbmeaa
open Go.RowKit Go.ChangeShapes Go.WideShapes Go.Deep

structure Pt where
  k : Int
  wd : Int
  n : Int
  s : ByteArray

def Pt.cells (p : Pt) : List Value := [.int .i64 p.k, .int .i64 p.wd, .int .i64 p.n, .string p.s]
def pcells (ps : List Pt) : List Value := ps.flatMap Pt.cells
def Pt.dat {H : Type} (p : Pt) : DataW H := .agg [.lit (.int .i64 p.k), .lit (.int .i64 p.wd), .lit (.int .i64 p.n), .lit (.string p.s.data.toList)]

theorem pcells_length (ps : List Pt) : (pcells ps).length = ps.length * 4 := by
  unfold pcells
  induction ps with
  | nil => rfl
  | cons p ps ih =>
    rw [List.flatMap_cons, List.length_append, ih, List.length_cons]
    show 4 + _ = _
    omega
theorem pcells_at {ps : List Pt} {i j : Nat} (hi : i < ps.length) (hj : j < 4) : (pcells ps)[i * 4 + j]? = (ps[i].cells)[j]? := by
  unfold pcells
  induction ps generalizing i with
  | nil => simp at hi
  | cons p ps ih =>
    rw [List.flatMap_cons]
    have h4 : p.cells.length = 4 := rfl
    cases i with
    | zero => rw [List.getElem?_append_left (by omega)]; simp
    | succ i =>
      rw [List.getElem?_append_right (by omega), h4, show (i + 1) * 4 + j - 4 = i * 4 + j by omega, ih (by simpa using hi)]
      rfl
/-- One part's four cells. -/
theorem Row.part {w : World} {A : Option Addr} {ps : List Pt} (h : Row w A (pcells ps)) {i : Nat} (hi : i < ps.length) : ∃ g o, A = some ⟨g, o, none⟩ ∧ g < w.heap.size ∧
    w.cell? ⟨g, o + i * 4, none⟩ = some (.int .i64 ps[i].k) ∧ w.cell? ⟨g, o + i * 4 + 1, none⟩ = some (.int .i64 ps[i].wd) ∧ w.cell? ⟨g, o + i * 4 + 2, none⟩ = some (.int .i64 ps[i].n) ∧ w.cell? ⟨g, o + i * 4 + 3, none⟩ = some (.string ps[i].s) := by
  obtain ⟨g, o, hA, hg, hc⟩ := h.at_ (by rw [pcells_length]; omega)
  have at_ : ∀ j, j < 4 → ∀ v, ps[i].cells[j]? = some v → w.cell? ⟨g, o + i * 4 + j, none⟩ = some v := fun j hj v hv => by
    rw [Nat.add_assoc]
    exact hc _ _ ((pcells_at hi hj).trans hv)
  exact ⟨g, o, hA, hg, at_ 0 (by omega) _ rfl, at_ 1 (by omega) _ rfl, at_ 2 (by omega) _ rfl, at_ 3 (by omega) _ rfl⟩

section
variable {H : Type} {enc : TypeId × Value → H} {W : World} {base b0 : Nat} {r : Reach} {v : Value} {d : DataW H} {q : List MemPlace}

theorem open_parts (hval : Value.okWide Try.prog W r b0 34 v) (h : DataW.Trod enc Try.prog W base (fun _ => true) true 34 v d q)
    (hw : ∀ x ∈ DataW.weights Try.prog 34 d, x ≤ reachBytes) :
    ∃ A n c ps, v = .slice A n c ∧ ps.length = n ∧ Row W A (pcells ps) ∧ n ≤ c ∧ n ≤ 140737488355328 ∧ (n = 0 ∨ ∃ spare, d = .slice (ps.map Pt.dat) spare) := by
  obtain ⟨A, n, c, rfl, hnc, hc, h0 | ⟨g, o, rfl, D, spare, rfl, hD⟩⟩ := open_structs Try.underlying34 Try.underlying40 (by kernel_rfl) (by kernel_rfl) (by decide) hval h
  · subst h0
    exact ⟨A, 0, c, [], rfl, rfl, .inl rfl, hnc, Nat.zero_le _, .inl rfl⟩
  · have hex : ∀ i, i < n → ∃ p : Pt, D i = p.dat ∧ ∀ j u, p.cells[j]? = some u → W.cell? ⟨g, o + (i * 4 + j), none⟩ = some u := by
      intro i hi
      obtain ⟨ys, m, hDi, hyl, hf⟩ := hD i hi
      obtain ⟨u0, y0, c0, e0, t0⟩ := hf 0 _ rfl
      obtain ⟨u1, y1, c1, e1, t1⟩ := hf 1 _ rfl
      obtain ⟨u2, y2, c2, e2, t2⟩ := hf 2 _ rfl
      obtain ⟨u3, y3, c3, e3, t3⟩ := hf 3 _ rfl
      obtain ⟨k, hk, hyk, _⟩ := DataW.trod_int Try.underlying3 t0
      obtain ⟨wd, hwd, hyw, _⟩ := DataW.trod_int Try.underlying3 t1
      obtain ⟨nn, hn, hyn, _⟩ := DataW.trod_int Try.underlying3 t2
      obtain ⟨s, hs, hys, _⟩ := DataW.trod_string Try.underlying9 t3
      simp only [List.cons.injEq, and_true] at hk hwd hn hs
      subst hk hwd hn hs
      match ys, hyl with
      | [z0, z1, z2, z3], _ =>
        simp only [List.getElem?_cons_zero, List.getElem?_cons_succ, Option.some.injEq] at e0 e1 e2 e3
        subst e0 e1 e2 e3
        refine ⟨⟨k, wd, nn, s⟩, ?_, fun j u hu => ?_⟩
        · rw [hDi, hyk, hyw, hyn, hys]
          rfl
        · match j, hu with
          | 0, hu => cases hu; exact c0
          | 1, hu => cases hu; exact c1
          | 2, hu => cases hu; exact c2
          | 3, hu => cases hu; exact c3
    obtain ⟨ps, hpl, hps⟩ := choose_list n hex
    have hn47 : n ≤ 140737488355328 := by
      have h5 := hw _ (by simp only [DataW.weights, Try.underlying34]; exact List.mem_cons_self ..)
      rw [show Try.prog.bytesOf 40 = 40 by kernel_rfl] at h5
      simp only [List.length_map, List.length_range, reachBytes] at h5
      omega
    refine ⟨some ⟨g, o, none⟩, n, c, ps, rfl, hpl, .inr ⟨g, o, rfl, fun j u hu => ?_⟩, hnc, hn47, .inr ⟨spare, ?_⟩⟩
    · have hjl : j < ps.length * 4 := by
        have := (List.getElem?_eq_some_iff.1 hu).1
        rwa [pcells_length] at this
      have hi : j / 4 < ps.length := by omega
      have hj : j = j / 4 * 4 + j % 4 := by omega
      rw [hj, pcells_at hi (by omega)] at hu
      have := (hps _ hi).2 _ _ hu
      rw [hj]
      exact this
    · congr 1
      apply List.ext_getElem
      · simp [hpl]
      · intro i h1 h2
        simp only [List.getElem_map, List.getElem_range]
        exact (hps i (by simpa using h2)).1
end
end Go.Proofs.Ytijogfjihnbmeaa
