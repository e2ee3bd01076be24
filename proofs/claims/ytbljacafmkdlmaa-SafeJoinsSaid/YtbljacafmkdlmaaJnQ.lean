/- Heads and parts, parted: plain laws, pieces of bytes in memory. No condition. -/
import Derived.Test.YtbljacafmkdlmaaMgE
import Derived.Test.YtbljacafmkdlmaaHdF
import Derived.Test.YtbljacafmkdlmaaRhd
import Derived.Test.YtbljacafmkdlmaaHsm
import Derived.Laws.IdiomStrings
import Derived.Deep.Cut
namespace Go.Proofs.Ytbljacafmkdlmaa
set_option maxRecDepth 100000
open Go.RowKit
set_option linter.unusedSimpArgs false
set_option linter.unusedVariables false

/-- What is left is an end of it. -/
def Suf (l' l : List UInt8) : Prop := ∃ k, k ≤ l.length ∧ l' = l.drop k
theorem Suf.refl (l : List UInt8) : Suf l l := ⟨0, Nat.zero_le _, rfl⟩
theorem Suf.trans {a b c : List UInt8} (h : Suf a b) (k : Suf b c) : Suf a c := by
  obtain ⟨i, hi, rfl⟩ := h
  obtain ⟨j, hj, rfl⟩ := k
  rw [List.length_drop] at hi
  exact ⟨j + i, by omega, by rw [List.drop_drop]⟩
theorem Suf.cut {l' l : List UInt8} (h : Suf l' l) : l'.length ≤ l.length ∧ l' = l.drop (l.length - l'.length) := by
  obtain ⟨k, hk, rfl⟩ := h
  rw [List.length_drop]
  exact ⟨by omega, by rw [show l.length - (l.length - k) = k by omega]⟩
theorem tk_suf (l : List UInt8) (e n : Int) (b : Bool) : Suf (tk l e n b).1 l := by
  unfold tk
  split
  · exact Suf.refl l
  split
  · exact Suf.refl l
  split
  · exact Suf.refl l
  · exact ⟨n.toNat, by omega, rfl⟩
theorem nm_suf (l : List UInt8) (e n : Int) : Suf (nm l e n).1 l := by
  unfold nm
  simp only
  split
  · exact tk_suf _ _ _ _
  · exact tk_suf _ _ _ _
theorem tx_suf (l : List UInt8) (e n : Int) : Suf (tx l e n).1 l := (tk_suf _ _ _ _).trans (nm_suf _ _ _)
theorem tk_short (l : List UInt8) (e n : Int) (b : Bool) : (tk l e n b).2.2.length ≤ l.length := by
  unfold tk
  split
  · exact Nat.zero_le _
  split
  · exact Nat.zero_le _
  split
  · exact Nat.zero_le _
  · simp only [List.length_take]; omega
theorem tx_short (l : List UInt8) (e n : Int) : (tx l e n).2.2.length ≤ l.length := Nat.le_trans (tk_short _ _ _ _) (nm_suf l e n).cut.1

theorem cutN_yes {ns : List Int} {r : List UInt8} {k : Nat} {q : List (List UInt8) × List UInt8} (h : cutN ns r k = some q) (hf : ¬ (q.2.length : Int) < ns.getD k 0) : cutN ns r (k + 1) = some (q.1 ++ [q.2.take (ns.getD k 0).toNat], q.2.drop (ns.getD k 0).toNat) := by
  show (match cutN ns r k with | none => none | some q => _) = _
  rw [h]
  exact if_neg hf
theorem cutN_no {ns : List Int} {r : List UInt8} {k : Nat} {q : List (List UInt8) × List UInt8} (h : cutN ns r k = some q) (hf : (q.2.length : Int) < ns.getD k 0) (hk : k < ns.length) : cutN ns r ns.length = none := by
  have h1 : cutN ns r (k + 1) = none := by
    show (match cutN ns r k with | none => none | some q => _) = _
    rw [h]
    exact if_pos hf
  have h2 := cutN_none h1 (ns.length - (k + 1))
  rw [show k + 1 + (ns.length - (k + 1)) = ns.length by omega] at h2
  exact h2

theorem decH_or (b : List UInt8) : (decH b).1 = noH ∨ (decH b).1.right = true := by
  by_cases h : (decH b).2 = 0
  · exact .inr (decH_ok h).1
  · left
    unfold decH at h ⊢
    cases ho : opened b with
    | none => rfl
    | some x =>
      rw [ho] at h
      simp only at h ⊢
      split
      · rfl
      · rename_i h1
        rw [if_neg h1] at h
        split
        · rfl
        · rename_i h2
          rw [if_neg h2] at h
          exact absurd rfl h
theorem decH_small (b : List UInt8) : (decH b).1.p.length ≤ 8 ∧ (decH b).1.n.length ≤ 15 := by
  rcases decH_or b with h | h
  · rw [h]
    exact ⟨by decide, by decide⟩
  · obtain ⟨_, _, _, _, h5, _, _, h8, _⟩ := Hd.right_of h
    exact ⟨h8, h5⟩
theorem dec_U {w w' : World} {b : List UInt8} {e : Ending} {d : Hd} {er : Int} (hd : decH b = (d, er)) (h : HDecPost w b e w') :
    ∃ A m c, e = .returned (.tuple #[.agg #[.int .i64 d.b, .int .i64 d.z, .string (str d.n), .int .i64 d.g, .bool d.c, .slice A m c], .int .i64 er]) ∧ d.p.length = m ∧ m ≤ 8 ∧ Row w' A (iv d.p) ∧ Ity w' A d.p ∧ Below w.heap.size w w' := by
  have h8 := (decH_small b).1
  unfold HDecPost at h
  rw [hd] at h h8
  obtain ⟨A, c, h1, h2, h3, h4, h5⟩ := h
  exact ⟨A, _, c, h1, rfl, h8, h3, h5, h4⟩
/-- A head is the same as itself. -/
theorem rSame_self (d : Hd) (m m2 : Nat) (A A2 : Option Addr) (c c2 : Nat) (w : World) (hm : d.p.length = m) (hm2 : d.p.length = m2) (hr : Row w A (iv d.p)) (hr2 : Row w A2 (iv d.p)) (h8 : m ≤ 17592186044416) :
    Calls Try.prog 27 #[.agg #[.int .i64 d.b, .int .i64 d.z, .string (str d.n), .int .i64 d.g, .bool d.c, .slice A m c], .agg #[.int .i64 d.b, .int .i64 d.z, .string (str d.n), .int .i64 d.g, .bool d.c, .slice A2 m2 c2]] w
      fun e w' => e = .returned (.bool true) ∧ Below w.heap.size w w' :=
  (rSame5_any d.b d.z d.g d.b d.z d.g d.n d.n d.c d.c d.p d.p m m2 A A2 c c2 w hm hm2 hr hr2 h8 (by omega)).mono fun e w' h => ⟨by rw [h.1]; exact ret_bool ((Hd.same_iff _ _).2 rfl), h.2⟩
theorem split_small (b : List UInt8) : (splitP b).1.p.length ≤ 8 := by
  unfold splitP
  split
  · exact Nat.zero_le _
  split
  · exact Nat.zero_le _
  split
  · exact Nat.zero_le _
  split
  · exact (decH_small _).1
  · exact Nat.zero_le _

/-- '[]byte(s)'. -/
theorem jconv_any (u : World) (l : List UInt8) (n : Nat) (hn : l.length = n) :
    ∃ c u', (convert 9 23 (.string (str l))).run Try.prog u = .ok (.slice (some ⟨u.heap.size, 0, none⟩) n c) u' ∧ n ≤ c ∧ Row u' (some ⟨u.heap.size, 0, none⟩) (bv l) ∧ Byt u' (some ⟨u.heap.size, 0, none⟩) l ∧ Below u.heap.size u u' := by
  have h := run_bytes_of_string (P := Try.prog) u 9 23 5 (str l) Try.underlying9 Try.underlying23 Try.underlying5
  rw [str_size, hn] at h
  refine ⟨_, _, h, grownCap_ge _ _ _ _, ?_, ?_, (Below.refl _ u).drew.alloc (Nat.le_refl _) _⟩
  · refine .inr ⟨_, 0, rfl, fun j v hv => ?_⟩
    have hj : j < l.length := by
      have h1 := (List.getElem?_eq_some_iff.1 hv).1
      rw [bv_length] at h1
      exact h1
    rw [bv_at hj] at hv
    injection hv with hv
    show World.cell? _ ⟨u.drew.heap.size, 0 + j, none⟩ = _
    rw [cell_of_row _ _ _ _ _ _ (heap_alloc_new u.drew _), Nat.zero_add, bytesRow_at _ _ _ (by simpa [str] using hj), ← hv]
    simp [str]
  · refine .inr fun a ha => ?_
    injection ha with ha
    subst ha
    exact ⟨_, _, heap_alloc_new u.drew _⟩
theorem jresults_row_tmps {P : Program} {fn : Func} {p u v : Tmp} {ty : TypeId} (h : fn.results = #[.cell p ty, .tmp u, .tmp v]) (tmps : Array Value) (w : World) (g : Nat) (t : TypeId) (cs : Array Value) (fr : Nat × Nat) (d : TypeDesc)
    (hp : tmps.getD p undef = .pointer (some ⟨g, 0, none⟩)) (hg : w.heap[g]? = some (.cells cs t fr))
    (hu : P.underlying ty = some d) (hd : (match d with | .struct _ | .array _ _ => true | _ => false) = true) (hi : (P.info? ty).map (·.size) = some cs.size) :
    (results fn tmps).run P w = .ok (.tuple #[.agg cs, tmps.getD u undef, tmps.getD v undef]) w := by
  have hp' : tmps[p]?.getD undef = .pointer (some ⟨g, 0, none⟩) := by simpa using hp
  simp [results, h, hp', asAddr, run_loadVar_row w g t ty cs fr d hg hu hd hi]

/-- A piece of bytes in memory, in a row of bytes. -/
structure PB (w : World) (p : Piece) : Prop where
  row : Row w p.A (bv p.l)
  byt : Byt w p.A p.l
  cap : p.l.length ≤ p.c
theorem PB.only {w w' : World} {F : Nat → Prop} {p : Piece} (h : PB w p) (ho : Only w w' F) (hF : ∀ k cs t lh, F k → w.heap[k]? = some (.cells cs t lh) → t ≠ 5) : PB w' p := by
  have hn : p.l ≠ [] → ∀ a, p.A = some a → ¬ F a.block := fun hx a ha hf => by
    rcases h.byt with hb | hb
    · exact hx hb
    · obtain ⟨cur, lh, e⟩ := hb a ha
      exact hF _ _ _ _ hf e rfl
  refine ⟨?_, ?_, h.cap⟩
  · by_cases hx : p.l = []
    · rw [hx]; exact Row.nil _ _
    · exact h.row.only ho (hn hx)
  · rcases h.byt with hb0 | hb1
    · exact .inl hb0
    · by_cases hx : p.l = []
      · exact .inl hx
      · refine .inr fun a ha => ?_
        obtain ⟨cur, lh, e⟩ := hb1 a ha
        have hlt : a.block < w.heap.size := (Array.getElem?_eq_some_iff.1 e).1
        exact ⟨cur, lh, (ho.block _ hlt (hn hx a ha)).trans e⟩
theorem PB.below {w w' : World} {p : Piece} (h : PB w p) (hb : Below w.heap.size w w') : PB w' p := h.only (Only.of_below hb (fun _ => False)) (fun _ _ _ _ hf => hf.elim)
theorem Own.tyOf {w : World} {B : Nat} {e : TypeId} {size : Nat} {A : Option Addr} {n c : Nat} {xs : List Value} (ho : Own w B e size A n c xs) {k : Nat} (hk : ownB A c = some k) {cs : Array Value} {t : TypeId} {lh : Nat × Nat} (e2 : w.heap[k]? = some (.cells cs t lh)) : t = e := by
  obtain ⟨_, _, _, h0 | ⟨g, cur, lo, hi, rfl, _, hh, _⟩⟩ := ho
  · subst h0; simp [ownB] at hk
  · by_cases hc : c = 0
    · subst hc; simp [ownB] at hk
    · rw [ownB_some (by omega)] at hk
      injection hk with hk
      subst hk
      rw [hh] at e2
      injection e2 with e2
      injection e2 with _ e2
      exact e2.symm
/-- Rows of pieces, one more laid behind. -/
theorem pbs_app {w w2 w3 : World} {B : Nat} {A : Option Addr} {n c : Nat} {ps : List Piece} {p : Piece} (h : ∀ q ∈ ps, PB w q) (hb : Below w.heap.size w w2) (hp : PB w2 p) (hown : Own w2 B 23 1 A n c (pv ps)) (hg : w2.grownBy w3 (ownB A c)) : ∀ q ∈ ps ++ [p], PB w3 q := by
  have ho : Only w2 w3 (fun k => ownB A c = some k) := (Only.refl w2 _).grown hg (fun k hk => .inl hk)
  have hF : ∀ k cs t lh, ownB A c = some k → w2.heap[k]? = some (.cells cs t lh) → t ≠ 5 := fun k cs t lh hk e => by
    rw [hown.tyOf hk e]
    decide
  intro q hq
  rcases List.mem_append.1 hq with hq | hq
  · exact ((h q hq).below hb).only ho hF
  · rw [List.mem_singleton] at hq
    subst hq
    exact hp.only ho hF
theorem Ity.row {w w' : World} {F : Nat → Prop} {A : Option Addr} {l : List Int} (h : Ity w A l) (hr : Row w A (iv l)) (ho : Only w w' F) (hF : ∀ k cs t lh, F k → w.heap[k]? = some (.cells cs t lh) → t ≠ 3) : Row w' A (iv l) := by
  by_cases hx : l = []
  · subst hx; exact Row.nil _ _
  · refine hr.only ho (fun a ha hf => ?_)
    obtain ⟨cur, lh, e⟩ := h hx a ha
    exact hF _ _ _ _ hf e rfl
theorem Ity.below {w w' : World} {A : Option Addr} {l : List Int} (h : Ity w A l) (hb : Below w.heap.size w w') (hr : Row w A (iv l)) : Ity w' A l := fun hx a ha => by
  obtain ⟨cur, lh, e⟩ := h hx a ha
  exact ⟨cur, lh, (hb.block _ (Array.getElem?_eq_some_iff.1 e).1).trans e⟩
theorem pv_snoc (ps : List Piece) (p : Piece) : pv ps ++ [p.val] = pv (ps ++ [p]) := by simp [pv]
theorem info_sl : (Try.prog.info? 23).map (fun i => (i.zero, i.size, i.bytes)) = some (some (.slice none 0 0), 1, 24) := by kernel_rfl
end Go.Proofs.Ytbljacafmkdlmaa
