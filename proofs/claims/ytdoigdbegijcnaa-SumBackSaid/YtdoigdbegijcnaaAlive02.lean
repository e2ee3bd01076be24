/- alive of the laws of chapter 02. No condition. -/
import Derived.Test.YtdoigdbegijcnaaSeal
import Derived.Test.YtdoigdbegijcnaaRef2
import Derived.Lib.SlBytesConst
namespace Go.Proofs.Ytdoigdbegijcnaa
open Go.RowKit

theorem row_mark {w : World} {cs : Array Value} {e : TypeId} {fr : Nat × Nat} : Row (w.alloc (.cells cs e fr)) (some ⟨w.heap.size, 0, none⟩) cs.toList :=
  .inr ⟨_, 0, rfl, fun j u hu => by rw [cell_of_row _ _ _ cs e fr (heap_alloc_new w _)]; simpa using hu⟩
theorem row_ab {w : World} : Row (w.alloc (.cells #[.int .u8 97, .int .u8 98] 5 (2, 3))) (some ⟨w.heap.size, 0, none⟩) (bv [97, 98]) := row_mark
theorem row_abc {w : World} : Row (w.alloc (.cells #[.int .u8 97, .int .u8 98, .int .u8 99] 5 (3, 4))) (some ⟨w.heap.size, 0, none⟩) (bv [97, 98, 99]) := row_mark

theorem adler_abc : adler [97, 98, 99] = 38600999 := by decide
theorem adler_nil : adler [] = 1 := by decide

theorem row_piece {w : World} {A : Option Addr} {n c : Nat} {l : List UInt8} (hn : l.length = n) : Row (w.alloc (.cells #[.slice A n c] 22)) (some ⟨w.heap.size, 0, none⟩) (pv [⟨A, c, l⟩]) := by
  have e : pv [⟨A, c, l⟩] = (#[.slice A n c] : Array Value).toList := by simp [pv, Piece.val, hn]
  rw [e]
  exact row_new

theorem pieces_one {w : World} {A : Option Addr} {c : Nat} {l : List UInt8} (hr : Row w A (bv l)) : Pieces w [⟨A, c, l⟩] := by
  intro p hp
  rw [List.mem_singleton] at hp
  subst hp
  exact hr

set_option maxHeartbeats 200000 in
theorem alive_any (w : World) :
    Calls Try.prog 9 #[] w fun e w' => e = .returned (.bool true) ∧ Below w.heap.size w w' := by
  have kc := fun (w : World) (C : Array Value) (n c : Nat) => Lib.run_convert_bytes_const (P := Try.prog) w 22 5 C n c Try.underlying22 Try.underlying5
  go_enter Try.func9, Try.ntmps9
  go_wp2_with fail
  refine (seal_any _ 2 _ [97, 98] _ rfl row_ab (by omega)).mono ?_
  rintro e w1 ⟨A1, c1, rfl, hown1, hb1⟩
  go_wp2_with fail
  refine (open_yes A1 6 c1 (sealed [97, 98]) [97, 98] w1 (by rw [sealed_length]; rfl) hown1.2.1 hown1.row (by omega) (opened_sealed _)).mono ?_
  rintro e w2 ⟨A2, c2, rfl, _, _, hown2, hb2⟩
  have hb02 : Below w.heap.size w w2 := ((((Below.refl _ _).alloc (Nat.le_refl _) _).trans (hb1.mono (by simp)))).trans (hb2.mono (Nat.le_trans (by simp) hb1.size))
  clear hb1 hown1 hb2
  have hcv : ∀ w' : World, Below w2.heap.size w2 w' → (convert 22 9 (.slice A2 2 c2)).run Try.prog w' = .ok (.string (str [97, 98])) w' := fun w' hb => run_string rfl _ _ _ Try.underlying22 Try.underlying5 Try.underlying9 (hown2.row.below hb)
  have HCV := Lib.hid hcv
  have hab : ({ data := #[97, 98] } : ByteArray).toList = [97, 98] := by rw [bytes_toList]
  clear hcv hown2
  go_wp2_with fail
  have hrp : Row ((w2.alloc (.cells #[.int .u8 97, .int .u8 98, .int .u8 99] 5 (3, 4))).alloc (.cells #[.slice (some ⟨w2.heap.size, 0, none⟩) 3 3] 22)) (some ⟨w2.heap.size + 1, 0, none⟩) (pv [⟨some ⟨w2.heap.size, 0, none⟩, 3, [97, 98, 99]⟩]) := by
    have h := row_piece (w := w2.alloc (.cells #[.int .u8 97, .int .u8 98, .int .u8 99] 5 (3, 4))) (A := some ⟨w2.heap.size, 0, none⟩) (n := 3) (c := 3) (l := [97, 98, 99]) rfl
    rw [World.size_alloc] at h
    exact h
  refine (of_any _ 1 1 [⟨some ⟨w2.heap.size, 0, none⟩, 3, [97, 98, 99]⟩] _ rfl hrp (pieces_one (row_abc.alloc _)) (by omega) (by intro p hp; rw [List.mem_singleton] at hp; subst hp; show 3 ≤ _; omega)).mono ?_
  rintro e w3 ⟨rfl, hb3⟩
  rw [show ([⟨_, _, [97, 98, 99]⟩] : List Piece).flatMap Piece.l = [97, 98, 99] from rfl, adler_abc]
  have hb03 : Below w2.heap.size w2 w3 := (((Below.refl _ _).alloc (Nat.le_refl _) _).alloc (by simp only [World.size_alloc]; omega) _).trans (hb3.mono (by simp only [World.size_alloc]; omega))
  clear hb3
  go_wp2_with fail
  refine (of_any none 0 0 [] _ rfl (Row.nil _ _) (fun p hp => by cases hp) (by omega) (fun p hp => by cases hp)).mono ?_
  rintro e w4 ⟨rfl, hb4⟩
  rw [show ([] : List Piece).flatMap Piece.l = [] from rfl, adler_nil]
  have hb24 : Below w2.heap.size w2 w4 := hb03.trans (hb4.mono hb03.size)
  have hcv := HCV.out w4 hb24
  clear HCV hb4
  go_wp2_with fail
  go_ret
  exact ⟨rfl, hb02.trans (hb24.mono hb02.size)⟩
end Go.Proofs.Ytdoigdbegijcnaa
