/- append(s, make([]T, m)...) on a row of the call's own, one-cell elements. Over any program. Conditions: the new length fits memory. -/
import Derived.Test.YtjkklndpfmemhaaMem
import Derived.Laws.BitsLemmas
namespace Go.Proofs.Ytjkklndpfmemhaa
open Go.RowKit

theorem zeroCells_one (z : Value) (m : Nat) : (Builtin.zeroCells #[z] m).toList = List.replicate m z := by
  unfold Builtin.zeroCells
  apply List.ext_getElem?
  intro j
  by_cases hj : j < m
  · simp [hj, Nat.mod_one]
  · simp [hj]

theorem run_app_zeros {P : Program} (w : World) (B : Nat) (t ti ty e : TypeId) (k : IntKind) (i : TypeInfo) (z z0 : Value) (bytes : Nat) (ht : P.underlying t = some (.slice e)) (hti : P.underlying ti = some (.int k)) (hi : P.info? e = some i) (hz : i.zero = some z)
    (hsize : i.size = 1) (hby : i.bytes = bytes) (hzs : z.cells = #[z0]) (hz1 : z0.oneCell' = true)
    (A : Option Addr) (n c : Nat) (xs : List Value) (hown : Own w B e 1 A n c xs) (m : Nat)
    (h63 : n + m ≤ maxLen) (hbytes : (n + m) * bytes ≤ 140737488355328) (hbase : B ≤ w.heap.size) :
    ∃ A' c' w', (Builtin.append_ #[t, ti] ty #[.slice A n c, .int .i64 (m : Int)]).run P w = .ok (.slice A' (n + m) c') w' ∧ Own w' B e 1 A' (n + m) c' (xs ++ List.replicate m z0) ∧ w.grownBy w' (ownB A c) ∧
      (ownB A' c' = ownB A c ∨ ownB A' c' = some w.heap.size) := by
  subst hby
  obtain ⟨news, hnews⟩ : ∃ news, news = List.replicate m z0 := ⟨_, rfl⟩
  rw [← hnews]
  have hnl : news.length = m := by rw [hnews, List.length_replicate]
  have h1 : ∀ u ∈ news, u.oneCell' = true := fun u hu => by rw [hnews] at hu; rw [List.eq_of_mem_replicate hu]; exact hz1
  have hzc : Builtin.zeroCells #[z0] m = news.toArray := by
    apply Array.ext'
    rw [zeroCells_one, hnews]
  have hw : IntKind.i64.wrap (m : Int) = m := by
    simp only [maxLen] at h63
    rw [IntKind.wrap_i64]
    omega
  have hl0 : ¬ ((m : Int) < 0) := by omega
  have hmb : m * i.bytes ≤ (n + m) * i.bytes := Nat.mul_le_mul_right _ (by omega)
  have hl48 : ¬ (281474976710656 < (m : Int) * (i.bytes : Int)) := by
    have : ((m * i.bytes : Nat) : Int) = (m : Int) * (i.bytes : Int) := Int.natCast_mul _ _
    omega
  have hlen2 : (xs ++ news).length = (n + m) * 1 := by rw [List.length_append, hown.1, hnl]; omega
  have hmo : ¬ 9223372036854775807 < m := by simp only [maxLen] at h63; omega
  by_cases hm0 : m = 0
  · subst hm0
    have hnn : news = [] := List.eq_nil_of_length_eq_zero hnl
    subst hnn
    refine ⟨A, c, w, ?_, by simpa using hown, World.grownBy.refl w _, .inl rfl⟩
    have hroom : n ≤ c := hown.2.1
    have hw0 : IntKind.i64.wrap 0 = 0 := hw
    cases A with
    | none => simp [Builtin.append_, run_underlying ht, run_underlying hti, sizeOf, typeInfo, asInt, asIntOf, hi, hw0, hroom]
    | some a => simp [Builtin.append_, run_underlying ht, run_underlying hti, sizeOf, typeInfo, asInt, asIntOf, hi, hw0, hroom, storeCells]
  have hmi : ¬ ((m : Int) = 0) := by omega
  by_cases hroom : n + m ≤ c
  · rcases hown.2.2.2 with hc0 | ⟨g, cur, lo, hi', rfl, hbg, hg, hf, hcs, htake⟩
    · omega
    · have hfit : n + news.length ≤ cur.size := by rw [hnl, hcs]; omega
      have hst := run_storeCells_row P g n e lo hi' news 0 cur w hg hf (by simpa using hfit) h1
      simp only [Nat.add_zero] at hst
      refine ⟨some ⟨g, 0, none⟩, c, w.setRow g (cur.toList.take n ++ news ++ cur.toList.drop (n + news.length)).toArray, ?_, ?_, ?_, .inl rfl⟩
      · simp [Builtin.append_, run_underlying ht, run_underlying hti, sizeOf, typeInfo, zeroValue, asInt, asIntOf, hi, hz, hsize, hw, hl0, hl48, hroom, hm0, hzs, hzc, addr_add, hst]
      · have hsz : (cur.toList.take n ++ news ++ cur.toList.drop (n + news.length)).length = cur.size := by
          simp only [List.length_append, List.length_take, List.length_drop, Array.length_toList]
          omega
        refine ⟨hlen2, hroom, hown.2.2.1, .inr ⟨g, _, lo, hi', rfl, hbg, setRow_heap w g cur _ e _ hg, ?_, ?_, ?_⟩⟩
        · simp only [List.size_toArray, hsz]; exact hf
        · simp only [List.size_toArray, hsz]; exact hcs
        · simp only []
          rw [Nat.mul_one] at htake
          rw [htake, ← hlen2]
          exact List.take_left
      · rw [ownB_some (by omega)]
        exact ⟨rfl, rfl, rfl, by simp, fun k _ hk => setRow_other w g k _ (fun e => hk (by rw [e]))⟩
  · have hm63 : ¬ (9223372036854775807 < ((n : Int) + (m : Int))) := by simp only [maxLen] at h63; omega
    have h48 : ¬ (281474976710656 < Builtin.nextslicecap (n + m) c * i.bytes) := by
      have := growslice_fits (need := n + m) (old := c) (bytes := i.bytes) (by omega) hbytes
      omega
    have hfo := (hown.row.drew).firstCells (P := P) 1 n n c hown.1
    have hge := grownCap_ge w (n + m) c e
    have hcm := grownCap_le_maxLen w (n + m) c e h63
    refine ⟨some ⟨w.heap.size, 0, none⟩, grownCap w (n + m) c e, w.drew.alloc (.cells (xs.toArray ++ news.toArray ++ Builtin.zeroCells z.cells (grownCap w (n + m) c e - (n + m))) e), ?_, ?_, ?_, ?_⟩
    · simp [Builtin.append_, run_underlying ht, run_underlying hti, sizeOf, typeInfo, zeroValue, asInt, asIntOf, hi, hz, hsize, hw, hl0, hl48, hroom, hm0, hm63, h48, hzs, hzc, Question.forced, hfo, newRow, grownCap]
      all_goals
        congr 2
        apply Array.ext'
        simp [List.append_assoc]
    · refine (Own.fresh w.drew _ e 1 (n + m) (grownCap w (n + m) c e) 0 0 (xs ++ news) hcm hge ?_ hlen2 ?_ (.inr (Nat.le_refl _))).less hbase
      · simp only [Array.size_append, List.size_toArray, size_zeroCells, hzs, hown.1, hnl]
        simp
        omega
      · simp only [Array.toList_append, List.append_assoc]
        rw [← List.append_assoc, ← hlen2]
        exact List.take_left
    · exact ⟨rfl, rfl, rfl, by simp, fun k hk _ => Below.heap_alloc w.drew _ k hk⟩
    · right
      exact ownB_some (by omega) _ _

theorem wpList_app0 {P : Program} (w : World) {ops : Array Oper} {rest : List Oper} {o : Oper} {a : Act} {Q : Exit → Act → World → Prop} (hgd : o.guard = none) (s x : Operand) (t ti : TypeId)
    (ho : o.op = .call { callee := .builtin .append, args := #[s, x], argTypes := #[t, ti] })
    (B : Nat) (e : TypeId) (k : IntKind) (i : TypeInfo) (z z0 : Value) (bytes : Nat) (ht : P.underlying t = some (.slice e)) (hti : P.underlying ti = some (.int k)) (hi : P.info? e = some i) (hz : i.zero = some z)
    (hsize : i.size = 1) (hby : i.bytes = bytes) (hzs : z.cells = #[z0]) (hz1 : z0.oneCell' = true)
    (A : Option Addr) (n c : Nat) (xs : List Value) (hs : a.eval s = .slice A n c) (hown : Own w B e 1 A n c xs)
    (m : Nat) (hx : a.eval x = .int .i64 (m : Int))
    (h63 : n + m ≤ maxLen) (hbytes : (n + m) * bytes ≤ 140737488355328) (hbase : B ≤ w.heap.size)
    (h : ∀ A' c' w', Own w' B e 1 A' (n + m) c' (xs ++ List.replicate m z0) → w.grownBy w' (ownB A c) → (ownB A' c' = ownB A c ∨ ownB A' c' = some w.heap.size) → wpList P ops Q rest (a.put o.dst (.slice A' (n + m) c')) w') :
    wpList P ops Q (o :: rest) a w :=
  wpList_plain hgd fun K hK => by
    obtain ⟨A', c', w', hr, h2, h3, h4⟩ := run_app_zeros (P := P) w B t ti o.type e k i z z0 bytes ht hti hi hz hsize hby hzs hz1 A n c xs hown m h63 hbytes hbase
    unfold Oper.wp execOp
    simp only [ho, resolve, invoke, builtin, Sem.run_bind, Sem.run_pure, Result.andThen_ok, List.map_toArray, List.map_cons, List.map_nil, hs, hx, hr]
    exact hK _ _ (h A' c' w' h2 h3 h4)

theorem step_app0 {P : Program} (w : World) {ops : Array Oper} {o : Oper} {a : Act} {K : Act → World → Prop} {Q : Exit → Act → World → Prop} {E : Prop} (hgd : o.guard = none) (s x : Operand) (t ti : TypeId)
    (ho : o.op = .call { callee := .builtin .append, args := #[s, x], argTypes := #[t, ti] })
    (B : Nat) (e : TypeId) (k : IntKind) (i : TypeInfo) (z z0 : Value) (bytes : Nat) (ht : P.underlying t = some (.slice e)) (hti : P.underlying ti = some (.int k)) (hi : P.info? e = some i) (hz : i.zero = some z)
    (hsize : i.size = 1) (hby : i.bytes = bytes) (hzs : z.cells = #[z0]) (hz1 : z0.oneCell' = true)
    (A : Option Addr) (n c : Nat) (xs : List Value) (hs : a.eval s = .slice A n c) (hown : Own w B e 1 A n c xs)
    (m : Nat) (hx : a.eval x = .int .i64 (m : Int))
    (h63 : n + m ≤ maxLen) (hbytes : (n + m) * bytes ≤ 140737488355328) (hbase : B ≤ w.heap.size)
    (h : ∀ A' c' w', Own w' B e 1 A' (n + m) c' (xs ++ List.replicate m z0) → w.grownBy w' (ownB A c) → (ownB A' c' = ownB A c ∨ ownB A' c' = some w.heap.size) → K (a.put o.dst (.slice A' (n + m) c')) w') :
    if Region.wanted o (yielded ops a.tmps) = true then Oper.wp P o a w K Q else E := by
  have hw : Region.wanted o (yielded ops a.tmps) = true := by simp [Region.wanted, hgd]
  rw [if_pos hw]
  obtain ⟨A', c', w', hr, h2, h3, h4⟩ := run_app_zeros (P := P) w B t ti o.type e k i z z0 bytes ht hti hi hz hsize hby hzs hz1 A n c xs hown m h63 hbytes hbase
  unfold Oper.wp execOp
  simp only [ho, resolve, invoke, builtin, Sem.run_bind, Sem.run_pure, Result.andThen_ok, List.map_toArray, List.map_cons, List.map_nil, hs, hx, hr]
  exact h A' c' w' h2 h3 h4
end Go.Proofs.Ytjkklndpfmemhaa
