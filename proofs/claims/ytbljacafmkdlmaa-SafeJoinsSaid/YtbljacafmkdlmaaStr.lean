/- Bytes, numbers and strings as lists, over any program. No condition. -/
import Derived.Test.YtbljacafmkdlmaaMem
namespace Go.Proofs.Ytbljacafmkdlmaa
open Go.RowKit

/-! ## bytes and numbers as cells -/
def bv (l : List UInt8) : List Value := l.map fun b => Value.int .u8 (b.toNat : Int)
def iv (l : List Int) : List Value := l.map (Value.int .i64)
theorem bv_length (l : List UInt8) : (bv l).length = l.length := by simp [bv]
theorem iv_length (l : List Int) : (iv l).length = l.length := by simp [iv]
theorem bv_append (l m : List UInt8) : bv (l ++ m) = bv l ++ bv m := by simp [bv]
theorem iv_append (l m : List Int) : iv (l ++ m) = iv l ++ iv m := by simp [iv]
theorem bv_at {l : List UInt8} {j : Nat} (h : j < l.length) : (bv l)[j]? = some (.int .u8 (l[j].toNat : Int)) := by simp [bv, h]
theorem iv_at {l : List Int} {j : Nat} (h : j < l.length) : (iv l)[j]? = some (.int .i64 l[j]) := by simp [iv, h]
theorem bv_one (l : List UInt8) : ∀ u ∈ bv l, u.oneCell' = true := by
  intro u hu
  obtain ⟨_, _, rfl⟩ := List.mem_map.1 hu
  rfl
theorem iv_one (l : List Int) : ∀ u ∈ iv l, u.oneCell' = true := by
  intro u hu
  obtain ⟨_, _, rfl⟩ := List.mem_map.1 hu
  rfl
theorem bv_drop (l : List UInt8) (k : Nat) : (bv l).drop k = bv (l.drop k) := by simp [bv]
theorem bv_take (l : List UInt8) (k : Nat) : (bv l).take k = bv (l.take k) := by simp [bv]
theorem iv_drop (l : List Int) (k : Nat) : (iv l).drop k = iv (l.drop k) := by simp [iv]
theorem iv_take (l : List Int) (k : Nat) : (iv l).take k = iv (l.take k) := by simp [iv]
theorem Row.bcell {w : World} {A : Option Addr} {l : List UInt8} (h : Row w A (bv l)) {k : Nat} (hk : k < l.length) : ∃ g o, A = some ⟨g, o, none⟩ ∧ g < w.heap.size ∧ w.cell? ⟨g, o + k, none⟩ = some (.int .u8 (l[k].toNat : Int)) := by
  obtain ⟨g, o, hA, hg, hc⟩ := h.at_ (by rw [bv_length]; omega)
  exact ⟨g, o, hA, hg, hc k _ (bv_at hk)⟩
theorem Row.icell {w : World} {A : Option Addr} {l : List Int} (h : Row w A (iv l)) {k : Nat} (hk : k < l.length) : ∃ g o, A = some ⟨g, o, none⟩ ∧ g < w.heap.size ∧ w.cell? ⟨g, o + k, none⟩ = some (.int .i64 l[k]) := by
  obtain ⟨g, o, hA, hg, hc⟩ := h.at_ (by rw [iv_length]; omega)
  exact ⟨g, o, hA, hg, hc k _ (iv_at hk)⟩

/-! ## strings -/
def str (l : List UInt8) : ByteArray := ⟨l.toArray⟩
theorem str_size (l : List UInt8) : (str l).size = l.length := by simp [str, ByteArray.size]
theorem str_nil : str [] = ⟨#[]⟩ := rfl
theorem str_toList (l : List UInt8) : (str l).data.toList = l := by simp [str]
theorem str_of (s : ByteArray) : s = str s.data.toList := by cases s; simp [str]
theorem bytes_toList (s : ByteArray) : s.toList = s.data.toList := by
  have key : ∀ (n i : Nat) (r : List UInt8), s.size - i = n → ByteArray.toList.loop s i r = r.reverse ++ s.data.toList.drop i := by
    intro n
    induction n with
    | zero =>
      intro i r h
      have hs : s.data.toList.length = s.size := by simp
      rw [ByteArray.toList.loop, if_neg (by omega), List.drop_eq_nil_of_le (by omega), List.append_nil]
    | succ n ih =>
      intro i r h
      have hs : s.data.toList.length = s.size := by simp
      have hi : i < s.data.toList.length := by omega
      rw [ByteArray.toList.loop, if_pos (by omega), ih (i + 1) _ (by omega), List.drop_eq_getElem_cons hi, List.reverse_cons, List.append_assoc, List.singleton_append]
      congr 2
      simp only [ByteArray.get!]
      rw [getElem!_pos s.data i (by simpa using hi)]
      simp
  have h := key s.size 0 [] rfl
  simpa [ByteArray.toList] using h
theorem str_toL (l : List UInt8) : (str l).toList = l := by rw [bytes_toList, str_toList]
attribute [go_sem] str_toL str_size
theorem str_inj {l m : List UInt8} : str l = str m ↔ l = m := ⟨fun h => by rw [← str_toList l, h, str_toList], fun h => by rw [h]⟩
theorem str_append (l m : List UInt8) : str l ++ str m = str (l ++ m) := ByteArray.mk_append_mk l m
theorem run_cat {P : Program} (l m : List UInt8) (h : l.length + m.length ≤ 9223372036854775807) (w : World) : (Op.stringOp .add (str l) (str m)).run P w = .ok (.string (str (l ++ m))) w := by
  rw [run_string_add_sum w _ _ (by rw [str_size, str_size]; exact h), str_append]
theorem run_str_at {P : Program} {t : TypeId} (ht : P.underlying t = some .string) (l : List UInt8) (k : Nat) (hk : k < l.length) (w : World) : (Instr.index t (.string (str l)) (.int .i64 (k : Int))).run P w = .ok (.int .u8 (l[k].toNat : Int)) w := by
  have h : (str l)[k]? = some l[k] := by
    show (ByteArray.mk l.toArray)[k]? = _
    rw [getElem?_pos (ByteArray.mk l.toArray) k (by simpa [ByteArray.size] using hk)]
    rfl
  simp [Instr.index, asIntOf, run_underlying ht, h]
theorem Src.str_ {P : Program} {w : World} {tx : TypeId} (l : List UInt8) (ht : P.underlying tx = some .string) : Src P w tx (.string (str l)) 1 l.length (bv l) := by
  have h := Src.string (P := P) (w := w) (s := str l) ht
  rw [str_size, str_toList] at h
  exact h
/-- string(b). -/
theorem run_string {P : Program} {w : World} {A : Option Addr} {l : List UInt8} {n c : Nat} (hn : l.length = n) (src dst e : TypeId) (hs : P.underlying src = some (.slice e)) (he : P.underlying e = some (.int .u8)) (hd : P.underlying dst = some .string)
    (hr : Row w A (bv l)) : (convert src dst (.slice A n c)).run P w = .ok (.string (str l)) w := by
  subst hn
  rcases hr with h0 | ⟨g, o, rfl, hx⟩
  · have hl : l = [] := by simpa [bv] using h0
    subst hl
    cases A with
    | none => rw [run_convert_bytes_nil w src e hs he _ _ dst hd]; rfl
    | some a => exact run_convert_bytes_back w src dst e a c [] hs he hd (fun j hj => by simp at hj)
  · exact run_convert_bytes_back w src dst e _ c l hs he hd (fun j hj => by rw [addr_add]; exact hx j _ (bv_at hj))

/-! ## make([]T, n) -/
theorem run_make1 {P : Program} (t e : TypeId) (i : TypeInfo) (z : Value) (ht : P.underlying t = some (.slice e)) (hi : P.info? e = some i) (hz : i.zero = some z) (hs : i.size = 1) (n : Nat) (hb : i.bytes * n ≤ 281474976710656) (hn : n ≤ 9223372036854775807) (w : World) :
    (Instr.makeSlice t (.int .i64 (n : Int)) (.int .i64 (n : Int))).run P w = .ok (.slice (some ⟨w.heap.size, 0, none⟩) n n) (w.alloc (.cells (madeCells z.cells n) e)) := by
  have hb' : (i.bytes : Int) * (n : Int) ≤ 281474976710656 := by
    have h : ((i.bytes * n : Nat) : Int) ≤ 281474976710656 := by omega
    rwa [Int.natCast_mul] at h
  have h := run_make (P := P) w t e i z ht hi hz .i64 .i64 n n (by omega) (by omega) hb' (by omega)
  simp only [Int.toNat_natCast, hs, Nat.mul_one] at h
  exact h
theorem madeCells_one (z : Value) (n : Nat) : (madeCells #[z] n).toList = List.replicate n z := by
  apply List.ext_getElem?
  intro j
  by_cases hj : j < n
  · simp [madeCells, hj, Nat.mod_one]
  · simp [madeCells, hj]

theorem ret_bool {a b : Bool} (h : a = b) : Ending.returned (.bool a) = .returned (.bool b) := by rw [h]
theorem ret_int {k : IntKind} {a b : Int} (h : a = b) : Ending.returned (.int k a) = .returned (.int k b) := by rw [h]
theorem ret_string {a b : ByteArray} (h : a = b) : Ending.returned (.string a) = .returned (.string b) := by rw [h]
end Go.Proofs.Ytbljacafmkdlmaa
