/- append where the row may be longer than half of what memory holds. Over any program. Conditions: the lengths fit memory. -/
import Derived.Test.YtbljacafmkdlmaaMem
import Derived.Deep.DeepAppendWide
namespace Go.Proofs.Ytbljacafmkdlmaa
set_option maxRecDepth 100000
open Go.RowKit

theorem run_app48 {P : Program} (w : World) (B : Nat) (t tx ty e : TypeId) (i : TypeInfo) (z : Value) (size bytes : Nat) (ht : P.underlying t = some (.slice e)) (hi : P.info? e = some i) (hz : i.zero = some z)
    (hsize : i.size = size) (hby : i.bytes = bytes) (hzs : z.cells.size = size)
    (A : Option Addr) (n c : Nat) (xs : List Value) (hown : Own w B e size A n c xs)
    (x : Value) (m : Nat) (news : List Value) (hsrc : Src P w tx x size m news)
    (h63 : n + m ≤ maxLen) (hbytes : ((n + m) + (n + m) / 4 + 192) * bytes ≤ 281474976710656) (hbase : B ≤ w.heap.size) :
    ∃ A' c' w', (Builtin.append_ #[t, tx] ty #[.slice A n c, x]).run P w = .ok (.slice A' (n + m) c') w' ∧ Own w' B e size A' (n + m) c' (xs ++ news) ∧ w.grownBy w' (ownB A c) ∧
      (ownB A' c' = ownB A c ∨ ownB A' c' = some w.heap.size) := by
  subst hsize
  subst hby
  obtain ⟨hd, hlen, hnl, hfirst, h1⟩ := hsrc
  have hlen2 : (xs ++ news).length = (n + m) * i.size := by rw [List.length_append, hown.1, hnl, Nat.add_mul]
  by_cases hroom : n + m ≤ c
  · rcases hown.2.2.2 with hc0 | ⟨g, cur, lo, hi', rfl, hbg, hg, hf, hcs, htake⟩
    · -- nothing is appended to a slice without room
      have hn0 : n = 0 := by omega
      have hm0 : m = 0 := by omega
      subst hn0 hm0 hc0
      have hnn : news = [] := List.eq_nil_of_length_eq_zero (by simpa using hnl)
      have hxx : xs = [] := List.eq_nil_of_length_eq_zero (by simpa using hown.1)
      subst hnn hxx
      refine ⟨A, 0, w, ?_, by simpa using Own.nil w B e i.size A, World.grownBy.refl w _, .inl rfl⟩
      have hfw := hfirst w rfl
      cases A with
      | none => rcases hd with ⟨_, hd⟩ | hd <;> simp [Builtin.append_, run_underlying ht, run_underlying hd, sizeOf, typeInfo, hi, hlen, hfw]
      | some a => rcases hd with ⟨_, hd⟩ | hd <;> simp [Builtin.append_, run_underlying ht, run_underlying hd, sizeOf, typeInfo, hi, hlen, hfw, storeCells]
    · have hfit : n * i.size + news.length ≤ cur.size := by rw [hnl, hcs, ← Nat.add_mul]; exact Nat.mul_le_mul_right _ hroom
      have hst := run_storeCells_row P g (n * i.size) e lo hi' news 0 cur w hg hf (by simpa using hfit) h1
      simp only [Nat.add_zero] at hst
      have hfw := hfirst w rfl
      by_cases hc : c = 0
      · subst hc
        have hn0 : n = 0 := by omega
        have hm0 : m = 0 := by omega
        subst hn0 hm0
        have hnn : news = [] := List.eq_nil_of_length_eq_zero (by simpa using hnl)
        have hxx : xs = [] := List.eq_nil_of_length_eq_zero (by simpa using hown.1)
        subst hnn hxx
        refine ⟨_, 0, w, ?_, by simpa using Own.nil w B e i.size _, World.grownBy.refl w _, .inl rfl⟩
        rcases hd with ⟨_, hd⟩ | hd <;> simp [Builtin.append_, run_underlying ht, run_underlying hd, sizeOf, typeInfo, hi, hlen, hfw, storeCells]
      refine ⟨some ⟨g, 0, none⟩, c, w.setRow g (cur.toList.take (n * i.size) ++ news ++ cur.toList.drop (n * i.size + news.length)).toArray, ?_, ?_, ?_, .inl rfl⟩
      · rcases hd with ⟨_, hd⟩ | hd <;> simp [Builtin.append_, run_underlying ht, run_underlying hd, sizeOf, typeInfo, hi, hlen, hroom, hfw, addr_add, hst]
      · have hsz : (cur.toList.take (n * i.size) ++ news ++ cur.toList.drop (n * i.size + news.length)).length = cur.size := by
          simp only [List.length_append, List.length_take, List.length_drop, Array.length_toList]
          omega
        refine ⟨hlen2, hroom, hown.2.2.1, .inr ⟨g, _, lo, hi', rfl, hbg, setRow_heap w g cur _ e _ hg, ?_, ?_, ?_⟩⟩
        · simp only [List.size_toArray, hsz]; exact hf
        · simp only [List.size_toArray, hsz]; exact hcs
        · simp only []
          rw [htake, ← hlen2]
          exact List.take_left
      · rw [ownB_some (by omega)]
        exact ⟨rfl, rfl, rfl, by simp, fun k _ hk => setRow_other w g k _ (fun e => hk (by rw [e]))⟩
  · have hm63 : ¬ (9223372036854775807 < ((n : Int) + (m : Int))) := by simp only [maxLen] at h63; omega
    have h48 : ¬ (281474976710656 < Builtin.nextslicecap (n + m) c * i.bytes) := by
      have := growslice_fits_wide (need := n + m) (old := c) (bytes := i.bytes) (by omega) hbytes
      omega
    have hfo := (hown.row.drew).firstCells (P := P) i.size n n c hown.1
    have hfn := hfirst w.drew rfl
    have hge := grownCap_ge w (n + m) c e
    have hcm := grownCap_le_maxLen w (n + m) c e h63
    refine ⟨some ⟨w.heap.size, 0, none⟩, grownCap w (n + m) c e, w.drew.alloc (.cells (xs.toArray ++ news.toArray ++ Builtin.zeroCells z.cells (grownCap w (n + m) c e - (n + m))) e), ?_, ?_, ?_, ?_⟩
    · rcases hd with ⟨_, hd⟩ | hd <;> simp [Builtin.append_, run_underlying ht, run_underlying hd, sizeOf, typeInfo, zeroValue, hi, hz, hlen, hroom, hm63, h48, Question.forced, hfo, hfn, newRow, grownCap]
      all_goals
        congr 2
        apply Array.ext'
        simp [List.append_assoc]
    · refine (Own.fresh w.drew _ e i.size (n + m) (grownCap w (n + m) c e) 0 0 (xs ++ news) hcm hge ?_ hlen2 ?_ (.inr (Nat.le_refl _))).less hbase
      · simp only [Array.size_append, List.size_toArray, size_zeroCells, hzs, hown.1, hnl, ← Nat.add_mul]
        congr 1
        omega
      · simp only [Array.toList_append, List.append_assoc]
        rw [← List.append_assoc, ← hlen2]
        exact List.take_left
    · exact ⟨rfl, rfl, rfl, by simp, fun k hk _ => Below.heap_alloc w.drew _ k hk⟩
    · right
      exact ownB_some (by omega) _ _


theorem wpList_app48 {P : Program} (w : World) {ops : Array Oper} {rest : List Oper} {o : Oper} {a : Act} {Q : Exit → Act → World → Prop} (hgd : o.guard = none) (s x : Operand) (t tx : TypeId)
    (ho : o.op = .call { callee := .builtin .append, args := #[s, x], argTypes := #[t, tx] })
    (B : Nat) (e : TypeId) (i : TypeInfo) (z : Value) (size bytes : Nat) (ht : P.underlying t = some (.slice e)) (hi : P.info? e = some i) (hz : i.zero = some z)
    (hsize : i.size = size) (hby : i.bytes = bytes) (hzs : z.cells.size = size)
    (A : Option Addr) (n c : Nat) (xs : List Value) (hs : a.eval s = .slice A n c) (hown : Own w B e size A n c xs)
    (v : Value) (m : Nat) (news : List Value) (hx : a.eval x = v) (hsrc : Src P w tx v size m news)
    (h63 : n + m ≤ maxLen) (hbytes : ((n + m) + (n + m) / 4 + 192) * bytes ≤ 281474976710656) (hbase : B ≤ w.heap.size)
    (h : ∀ A' c' w', Own w' B e size A' (n + m) c' (xs ++ news) → w.grownBy w' (ownB A c) → (ownB A' c' = ownB A c ∨ ownB A' c' = some w.heap.size) → wpList P ops Q rest (a.put o.dst (.slice A' (n + m) c')) w') :
    wpList P ops Q (o :: rest) a w :=
  wpList_plain hgd fun K hK => by
    obtain ⟨A', c', w', hr, h2, h3, h4⟩ := run_app48 (P := P) w B t tx o.type e i z size bytes ht hi hz hsize hby hzs A n c xs hown v m news hsrc h63 hbytes hbase
    unfold Oper.wp execOp
    simp only [ho, resolve, invoke, builtin, Sem.run_bind, Sem.run_pure, Result.andThen_ok, List.map_toArray, List.map_cons, List.map_nil, hs, hx, hr]
    exact hK _ _ (h A' c' w' h2 h3 h4)

end Go.Proofs.Ytbljacafmkdlmaa
