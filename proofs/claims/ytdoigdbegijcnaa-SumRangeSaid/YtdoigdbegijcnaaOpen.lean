/- What a row's frame tells of arguments, in the words of the walks. No condition. -/
import Derived.Test.YtdoigdbegijcnaaBlk
namespace Go.Proofs.Ytdoigdbegijcnaa
open Go.RowKit

theorem u8_of {x : Int} (h : (Lit.int .u8 x).wf = true) : 0 ≤ x ∧ x ≤ 255 := by
  simpa [Lit.wf, IntKind.min, IntKind.max, IntKind.signed, IntKind.bits] using h
theorem i64_of {x : Int} (h : (Lit.int .i64 x).wf = true) : -9223372036854775808 ≤ x ∧ x ≤ 9223372036854775807 := by
  simpa [Lit.wf, IntKind.min, IntKind.max, IntKind.signed, IntKind.bits] using h

/-- A slice of bytes that came in. -/
theorem bytes_of {w : World} {a : Option Addr} {len cap : Nat} {zs : List Int}
    (h : (a = none ∧ len = 0 ∧ cap = 0 ∧ zs = []) ∨ ∃ x, a = some x ∧ len ≤ cap ∧ cap ≤ maxLen ∧ zs.length = cap ∧ (∀ i, i < zs.length → w.cell? (x.add i) = some (.int .u8 (zs.getD i 0))) ∧ ∀ n ∈ zs, (Lit.int .u8 n).wf = true) :
    ∃ l : List UInt8, l.length = len ∧ Row w a (bv l) ∧ len ≤ cap ∧ cap ≤ maxLen := by
  rcases h with ⟨rfl, rfl, rfl, rfl⟩ | ⟨x, rfl, hlc, hm, hz, hc, hw⟩
  · exact ⟨[], rfl, .inl rfl, Nat.le_refl _, Nat.zero_le _⟩
  · refine ⟨(zs.take len).map fun n => UInt8.ofNat n.toNat, by simp; omega, ?_, hlc, hm⟩
    by_cases h0 : len = 0
    · subst h0; exact .inl (by simp [bv])
    · have hx0 := hc 0 (by omega)
      have hsp : x.spot = none := by
        unfold World.cell? at hx0
        have hadd : x.add 0 = x := by simp [Addr.add]
        rw [hadd] at hx0
        split at hx0
        · cases hs : x.spot with
          | none => rfl
          | some _ => simp [hs] at hx0
        · cases hx0
      obtain ⟨g, o, s⟩ := x
      obtain rfl : s = none := hsp
      refine .inr ⟨g, o, rfl, fun j u hu => ?_⟩
      have hj : j < len := by
        have := (List.getElem?_eq_some_iff.1 hu).1
        simp [bv] at this
        omega
      have hcj := hc j (by omega)
      rw [addr_add] at hcj
      rw [hcj]
      have hzj : zs.getD j 0 = zs[j]'(by omega) := by simp [List.getD, show j < zs.length by omega]
      have hwj := u8_of (hw _ (List.getElem_mem (show j < zs.length by omega)))
      have hu2 : (bv ((zs.take len).map fun n => UInt8.ofNat n.toNat))[j]? = some (.int .u8 ((UInt8.ofNat (zs[j]'(by omega)).toNat).toNat : Int)) := by
        simp [bv, hj, show j < zs.length by omega]
      rw [hu2] at hu
      rw [← hu, hzj]
      congr 2
      rw [UInt8.toNat_ofNat']
      omega
end Go.Proofs.Ytdoigdbegijcnaa
