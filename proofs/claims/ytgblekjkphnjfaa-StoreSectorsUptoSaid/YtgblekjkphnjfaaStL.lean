/- Stores, calls: plain laws. No condition. -/
import Derived.Test.YtgblekjkphnjfaaFew
namespace Go.Proofs.Ytgblekjkphnjfaa
open Go.RowKit
set_option linter.unusedSimpArgs false

theorem Sto.apart {w : World} {B : Nat} {f : Fp} {s : St} {g : Nat} {t : TypeId} {cs : Array Value} (h : Sto w B f s) (hb : Blk w g t cs) (h1 : t ≠ 64) (h2 : t ≠ 70) : ¬ Foot f g := by
  rintro (e | e | e | e)
  · exact hb.ne_ h.blk h1 e
  · exact hb.ne_map h.safe e
  · exact hb.ne_map h.seen e
  · exact h.own.blk_ne hb (fun e => h2 e.symm) _ e rfl
theorem doO_len {s : St} (h : s.OK) (o : Opn) : (doO s o).1.l.length ≤ s.l.length + 4096 := by
  unfold doO
  split
  · unfold doW
    split
    · simp
    split
    · simp
    split
    · simp
    · rename_i h2 _
      have hi : insideB s.n o.at_ ((o.b.length / 16 : Nat) : Int) = true := by simpa using h2
      have h3 := insideB_of hi
      have h4 := h.n1
      simp only [List.length_append, chs_length]
      omega
  split
  · simp
  split
  · simp [doF]
  split
  · show (crashL s o.keep).length ≤ _
    unfold crashL
    have h1 := kp_length o.keep (s.l.drop s.k) (s.l.length - s.k)
    have h2 := h.k
    rw [List.length_append, List.length_take]
    omega
  split
  · unfold doZ
    split
    · simp
    · have := List.length_filter_le (fun w : Wrt => decide (w.1 < o.n)) s.l
      simp only [resL]
      omega
  split
  · simp [doR]
  · simp
end Go.Proofs.Ytgblekjkphnjfaa
