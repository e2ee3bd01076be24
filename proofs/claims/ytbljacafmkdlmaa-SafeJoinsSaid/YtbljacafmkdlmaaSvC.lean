/- safe.Begin. Condition: a store as one lies in memory. -/
import Derived.Test.YtbljacafmkdlmaaSvB
import Derived.Test.YtbljacafmkdlmaaMgA
import Derived.Laws.CopyOwn
import Derived.IntWalk
namespace Go.Proofs.Ytbljacafmkdlmaa
set_option maxRecDepth 100000
open Go.RowKit
set_option linter.unusedSimpArgs false
set_option linter.unusedVariables false

/-- A saver under way. -/
structure Bld (w : World) (B0 : Nat) (f : Fp) (s : St) (gv gp gs : Nat) (l : List SOp) (n : Nat) (A : Option Addr) (c : Nat) (vs : List Value) (w' : World) : Prop where
  len : l.length = n
  blk : Blk w' gv 86 #[.slice A n c, .int .i64 0]
  own : Own w' w.heap.size 87 1 A n c vs
  fns : Fns w' f.g l vs
  bp : Blk w' gp 37 #[.pointer (some ⟨gv, 0, none⟩)]
  bs : Blk w' gs 24 #[.pointer (some ⟨f.g, 0, none⟩)]
  sto : Sto w' B0 f s
  bel : Below w.heap.size w w'
  lo : w.heap.size ≤ gv
theorem Bld.below {w : World} {B0 : Nat} {f : Fp} {s : St} {gv gp gs : Nat} {l : List SOp} {n : Nat} {A : Option Addr} {c : Nat} {vs : List Value} {w1 w2 : World} (h : Bld w B0 f s gv gp gs l n A c vs w1) (hb : Below w1.heap.size w1 w2) : Bld w B0 f s gv gp gs l n A c vs w2 :=
  ⟨h.len, h.blk.belowAll hb, h.own.below hb, h.fns.under hb, h.bp.belowAll hb, h.bs.belowAll hb, h.sto.below hb, below_all h.bel hb, h.lo⟩
theorem Bld.only {w : World} {B0 : Nat} {f : Fp} {s : St} {gv gp gs : Nat} {l : List SOp} {n : Nat} {A : Option Addr} {c : Nat} {vs : List Value} {w1 w2 : World} (h : Bld w B0 f s gv gp gs l n A c vs w1) : ∀ k, (k = gv ∨ ownB A c = some k) → Far4 w1 k ∧ w.heap.size ≤ k ∧ ¬ Foot f k ∧ k ≠ gp ∧ k ≠ gs := by
  intro k hk
  rcases hk with rfl | hk
  · exact ⟨h.blk.far4 (by decide), h.lo, h.sto.not_of h.blk (by decide) (by decide), h.blk.ne_ h.bp (by decide), h.blk.ne_ h.bs (by decide)⟩
  · exact ⟨h.own.far4 (by decide) k hk, (h.own.lt k hk).1, h.sto.not_own h.own (by decide) (by decide) k hk, h.own.blk_ne h.bp (by decide) k hk, h.own.blk_ne h.bs (by decide) k hk⟩
theorem Bld.app {w : World} {B0 : Nat} {f : Fp} {s : St} {gv gp gs : Nat} {l : List SOp} {n : Nat} {A : Option Addr} {c : Nat} {vs : List Value} {w1 w2 : World} (h : Bld w B0 f s gv gp gs l n A c vs w1) {v : Value} {o : SOp} (ha : AppPost w1 w.heap.size gv 0 A n c vs v w2) (hf : FnOK w2 f.g o v) :
    ∃ A' c', Bld w B0 f s gv gp gs (l ++ [o]) (n + 1) A' c' (vs ++ [v]) w2 := by
  obtain ⟨A', c', hb, hown, ho⟩ := ha
  have hk := h.only (w2 := w2)
  have hbel : Below w.heap.size w w2 := h.bel.trans (ho.belowB (fun k hk' => (hk k hk').2.1) h.bel.size)
  refine ⟨A', c', ⟨by rw [List.length_append, h.len]; rfl, hb, hown, (h.fns.only ho (fun k hk' => (hk k hk').1)).snoc hf, ?_, ?_, ?_, hbel, h.lo⟩⟩
  · exact h.bp.only ho (fun e => (hk gp e).2.2.2.1 rfl)
  · exact h.bs.only ho (fun e => (hk gs e).2.2.2.2 rfl)
  · exact h.sto.only ho (fun k hf' e => (hk k e).2.2.1 hf')
theorem Bld.saver {w : World} {B0 : Nat} {f : Fp} {s : St} {gv gp gs : Nat} {l : List SOp} {n : Nat} {A : Option Addr} {c : Nat} {vs : List Value} {w1 : World} (h : Bld w B0 f s gv gp gs l n A c vs w1) : Sv w1 gv f.g l 0 := by
  have e := h.len
  subst e
  refine ⟨A, c, vs, h.blk, h.own.2.1, h.fns, h.own.row, fun hx a ha => ?_⟩
  obtain ⟨hl, hnc, _, h0 | ⟨g, cur, lo, hi, he, _, hh, _⟩⟩ := h.own
  · subst h0
    have : l.length = 0 := by omega
    exact absurd (List.eq_nil_of_length_eq_zero (by omega)) hx
  · rw [ha] at he
    injection he with he
    subst he
    exact ⟨cur, _, hh⟩
theorem Bld.appF {w : World} {B0 : Nat} {f : Fp} {s : St} {gv gp gs : Nat} {l : List SOp} {n : Nat} {A : Option Addr} {c : Nat} {vs : List Value} {w1 w2 : World} (h : Bld w B0 f s gv gp gs l n A c vs w1) (ha : AppPost w1 w.heap.size gv 0 A n c vs (.func (.func 38) #[] #[.pointer (some ⟨gs, 0, none⟩)]) w2) :
    ∃ A' c', Bld w B0 f s gv gp gs (l ++ [.flush]) (n + 1) A' c' (vs ++ [.func (.func 38) #[] #[.pointer (some ⟨gs, 0, none⟩)]]) w2 := by
  have hk := h.only (w2 := w2)
  refine h.app ha ?_
  obtain ⟨A', c', hb, hown, ho⟩ := ha
  exact ⟨gs, rfl, h.bs.only ho (fun e => (hk gs e).2.2.2.2 rfl)⟩
theorem Bld.appW {w : World} {B0 : Nat} {f : Fp} {s : St} {gv gp gs : Nat} {l : List SOp} {n : Nat} {A : Option Addr} {c : Nat} {vs : List Value} {w1 w2 : World} (h : Bld w B0 f s gv gp gs l n A c vs w1) {ga gx : Nat} (ha : AppPost w1 w.heap.size gv 0 A n c vs (.func (.func 41) #[] #[.pointer (some ⟨gs, 0, none⟩), .pointer (some ⟨ga, 0, none⟩), .pointer (some ⟨gx, 0, none⟩)]) w2)
    {a : Int} {X : Option Addr} {m cx : Nat} {b : List UInt8} (hga : Blk w2 ga 3 #[.int .i64 a]) (hgx : Blk w2 gx 23 #[.slice X m cx]) (hm : b.length = m) (hmc : m ≤ cx) (hm5 : m ≤ 1000000) (hr : Row w1 X (bv b)) (hb : Byt w1 X b) :
    ∃ A' c', Bld w B0 f s gv gp gs (l ++ [.write a b]) (n + 1) A' c' (vs ++ [.func (.func 41) #[] #[.pointer (some ⟨gs, 0, none⟩), .pointer (some ⟨ga, 0, none⟩), .pointer (some ⟨gx, 0, none⟩)]]) w2 := by
  have hk := h.only (w2 := w2)
  refine h.app ha ?_
  obtain ⟨A', c', _, hown, ho⟩ := ha
  have hbb : b ≠ [] → ∀ a', X = some a' → ¬ (a'.block = gv ∨ ownB A c = some a'.block) := fun hx a' ha hf => by
    rcases hb with hb | hb
    · exact hx hb
    · obtain ⟨cur, lh, e⟩ := hb a' ha
      exact ((hk _ hf).1 _ _ _ e).2.2.2 rfl
  refine ⟨gs, ga, gx, X, m, cx, rfl, h.bs.only ho (fun e => (hk gs e).2.2.2.2 rfl), hga, hgx, hm, hmc, hm5, ?_, ?_⟩
  · by_cases hx : b = []
    · subst hx; exact Row.nil _ _
    · exact hr.only ho (hbb hx)
  · rcases hb with hb0 | hb1
    · exact .inl hb0
    · by_cases hx : b = []
      · exact .inl hx
      · refine .inr fun a' ha => ?_
        obtain ⟨cur, lh, e⟩ := hb1 a' ha
        have hlt : a'.block < w1.heap.size := (Array.getElem?_eq_some_iff.1 e).1
        exact ⟨cur, lh, (ho.block _ hlt (hbb hx a' ha)).trans e⟩
theorem AppPost.on {w w' : World} {B gv : Nat} {e : Int} {A : Option Addr} {n c : Nat} {vs : List Value} {v : Value} (h : AppPost w B gv e A n c vs v w') : Only w w' (fun k => k = gv ∨ ownB A c = some k) := by
  obtain ⟨_, _, _, _, ho⟩ := h
  exact ho
theorem Bld.row {w : World} {B0 : Nat} {f : Fp} {s : St} {gv gp gs : Nat} {l : List SOp} {n : Nat} {A : Option Addr} {c : Nat} {vs : List Value} {w1 w2 : World} (h : Bld w B0 f s gv gp gs l n A c vs w1) (ho : Only w1 w2 (fun k => k = gv ∨ ownB A c = some k)) {X : Option Addr} {b : List UInt8} (hr : Row w1 X (bv b)) (hb : Byt w1 X b) : Row w2 X (bv b) := by
  by_cases hx : b = []
  · subst hx; exact Row.nil _ _
  · refine hr.only ho (fun a' ha hf => ?_)
    rcases hb with hb | hb
    · exact hx hb
    · obtain ⟨cur, lh, e⟩ := hb a' ha
      exact ((h.only (w2 := w2) _ hf).1 _ _ _ e).2.2.2 rfl
theorem Row.of_blk {w : World} {g : Nat} {t : TypeId} {l : List UInt8} (h : Blk w g t (bv l).toArray) : Row w (some ⟨g, 0, none⟩) (bv l) :=
  .inr ⟨g, 0, rfl, fun j u hu => by rw [Nat.zero_add, h.cell j]; simpa using hu⟩
theorem Byt.of_blk {w : World} {g : Nat} {l : List UInt8} (h : Blk w g 5 (bv l).toArray) : Byt w (some ⟨g, 0, none⟩) l :=
  .inr fun a ha => by injection ha with ha; subst ha; exact ⟨_, _, h⟩
theorem Byt.of_own {w : World} {B : Nat} {A : Option Addr} {n c : Nat} {l : List UInt8} (h : Own w B 5 1 A n c (bv l)) : Byt w A l := by
  obtain ⟨hl, hnc, _, h0 | ⟨g, cur, lo, hi, rfl, _, hh, _⟩⟩ := h
  · subst h0
    left
    have : n = 0 := by omega
    subst this
    exact List.eq_nil_of_length_eq_zero (by rw [bv_length] at hl; omega)
  · exact .inr fun a ha => by injection ha with ha; subst ha; exact ⟨_, _, hh⟩
/-- What Begin answers. -/
def BeginPost (w : World) (f : Fp) (r : List SOp × Int) (e : Ending) (w' : World) : Prop :=
  Below w.heap.size w w' ∧ ((r.2 = 0 ∧ ∃ gv, e = .returned (.tuple #[.pointer (some ⟨gv, 0, none⟩), .int .i64 0]) ∧ Sv w' gv f.g r.1 0 ∧ w.heap.size ≤ gv) ∨ (¬ r.2 = 0 ∧ e = .returned (.tuple #[.pointer none, .int .i64 r.2])))

theorem make16b (u : World) : (Instr.makeSlice 23 (.int .i64 16) (.int .i64 16)).run Try.prog u = .ok (.slice (some ⟨u.heap.size, 0, none⟩) 16 16) (u.alloc (.cells (bv (List.replicate 16 0)).toArray 5)) := by
  exact make16 u
theorem splice_pad (x : List UInt8) : splice (bv (List.replicate 16 0)) 0 (bv (x.take 16)) = bv (pad16 x) := by
  unfold splice pad16
  rw [List.take_zero, List.nil_append, Nat.zero_add, bv_length, bv_drop, ← bv_append, List.drop_replicate]
  congr 1
  rw [List.take_append, List.take_replicate, List.length_take]
  congr 2
  omega

set_option maxHeartbeats 16000000 in
theorem begin_any (B0 : Nat) (f : Fp) (s : St) (w : World) (h : Sto w B0 f s) (Ab : Option Addr) (nb cb : Nat) (b : List UInt8) (hnb : b.length = nb) (hbc : nb ≤ cb) (hrb : Row w Ab (bv b)) (hb47 : nb ≤ 140737488355328) :
    Calls Try.prog 15 #[.pointer (some ⟨f.g, 0, none⟩), .slice Ab nb cb] w (BeginPost w f (beginP s b)) := by
  obtain ⟨i0, hi0, hz0, hz1, hz2⟩ := info_parts info_fn
  have HZ0 := Lib.hid hz0
  have HZ1 := Lib.hid hz1
  have HZ2 := Lib.hid hz2
  have HI0 := Lib.hid hi0
  clear hi0 hz0 hz1 hz2
  have hbg : beginP s b = if 16 * areaN s.n < b.length then ([], 1) else if 1073741824 ≤ (newestP s).2.2 then ([], 131) else (opsOf s.n (kOf s) ((newestP s).2.2 + 1) b, 0) := rfl
  have hlb : ∀ a, Ab = some a → 0 < b.length → a.block < w.heap.size := fun a ha hx => by
    have h1 := Row.lt hrb (fun e => by have := bv_length b; rw [e] at this; simp at this; omega) a ha
    exact h1
  have HLB := Lib.hid hlb
  clear hlb
  have hn0 := h.ok.n0
  have hn1 := h.ok.n1
  have ha5 : areaN s.n ≤ 2047 := by unfold areaN; omega
  have hln := fun u (hu : Sto u B0 f s) => len_any B0 f s u hu
  have hmo := fun u => most_any s.n u hn0 (by omega)
  have har := fun u => area_any s.n u hn0 (by omega)
  have hnw := fun u (hu : Sto u B0 f s) => newest_any B0 f s u hu
  have hgs := Blk.new w 24 #[.pointer (some ⟨f.g, 0, none⟩)]
  have h1 := h.alloc (.cells #[.pointer (some ⟨f.g, 0, none⟩)] 24)
  have hrb1 := hrb.alloc (.cells #[.pointer (some ⟨f.g, 0, none⟩)] 24)
  have hb01 : Below w.heap.size w (w.alloc (.cells #[.pointer (some ⟨f.g, 0, none⟩)] 24)) := (Below.refl _ w).alloc (Nat.le_refl _) _
  obtain ⟨gs, hgse⟩ : ∃ gs, gs = w.heap.size := ⟨_, rfl⟩
  have hgsw : w.heap.size ≤ gs := by omega
  rw [← hgse] at hgs
  obtain ⟨w1, hw1⟩ : ∃ w1, w1 = w.alloc (.cells #[.pointer (some ⟨f.g, 0, none⟩)] 24) := ⟨_, rfl⟩
  rw [← hw1] at hgs h1 hrb1 hb01
  have hko := kOf_lt s
  have hkd : kOf s = if (newestP s).1 = 0 then 1 else 0 := rfl
  have hpa : (newestP s).1 = 0 ∨ (newestP s).1 = 1 ∨ (newestP s).1 = -1 := by
    unfold newestP
    split
    · exact .inr (.inl rfl)
    split
    · exact .inl rfl
    · exact .inr (.inr rfl)
  have hmod : ((newestP s).1 + 1) % 2 = ((kOf s : Nat) : Int) := by
    rw [hkd]
    rcases hpa with e | e | e <;> rw [e] <;> rfl
  have hgle := newestP_le s
  obtain ⟨⟨pa, pb, pg⟩, hp⟩ : ∃ r, r = newestP s := ⟨_, rfl⟩
  simp only [← hp] at hnw hbg hmod hgle hpa
  obtain ⟨k, hk⟩ : ∃ k, k = kOf s := ⟨_, rfl⟩
  rw [← hk] at hbg hmod hko
  obtain ⟨r, hr⟩ : ∃ r, r = beginP s b := ⟨_, rfl⟩
  rw [← hr] at hbg ⊢
  rw [hnb] at hbg
  have HBG := Lib.hid hbg
  have HNB := Lib.hid hnb
  have HLN := Lib.hid hln
  have HMO := Lib.hid hmo
  have HAR := Lib.hid har
  have HNW := Lib.hid hnw
  have HMOD := Lib.hid hmod
  have HW1 := Lib.hid hw1
  have HGS := Lib.hid hgse
  obtain ⟨a, ha⟩ : ∃ a, a = areaN s.n := ⟨_, rfl⟩
  have HA := Lib.hid ha
  rw [← ha] at ha5 HBG HMO HAR
  obtain ⟨sn, hsn⟩ : ∃ sn, sn = s.n := ⟨_, rfl⟩
  have HSN := Lib.hid hsn
  rw [← hsn] at HLN HMO HAR hn0 hn1
  have hpa1 : -1 ≤ pa ∧ pa ≤ 1 := by rcases hpa with e | e | e <;> omega
  clear hbg hnb hln hmo har hnw hmod hw1 hgse ha hsn hk hr hp hpa hkd
  go_enter Try.func15, Try.ntmps15
  go_upto_region 1 with fail
  rw [← HW1.out, ← HGS.out]
  clear HW1 HGS
  have zs := cell1 hgs
  go_wp2_with fail
  refine (HNW.out _ h1).mono ?_
  rintro e w2 ⟨A2, m2, c2, rfl, _, _, _, hb2⟩
  have h2 := h1.below hb2
  have hb02 := below_all hb01 hb2
  have hgs2 := hgs.belowAll hb2
  have hrb2 := hrb1.below hb2
  have zs := cell1 hgs2
  clear h1 hb01 hb2 hgs hrb1
  go_wp2_with fail
  refine (HLN.out _ h2).mono ?_
  rintro e w3 ⟨rfl, rfl⟩
  go_wp2_with fail
  refine (HMO.out _).mono ?_
  rintro e w4 ⟨rfl, rfl⟩
  by_cases hlong : 16 * a < nb
  · have hre : r = ([], 1) := by rw [HBG.out, if_pos hlong]
    have HRE := Lib.hid hre
    clear hre
    go_wp2_with fail
    go_ret2
    exact ⟨hb02, .inr ⟨by rw [HRE.out]; simp, by rw [HRE.out]; rfl⟩⟩
  clear hgle
  by_cases hold : (1073741824 : Int) ≤ (pg : Int)
  · have hre : r = ([], 131) := by rw [HBG.out, if_neg hlong, if_pos (by omega)]
    have HRE := Lib.hid hre
    clear hre
    go_wp2_with fail
    go_ret2
    exact ⟨hb02, .inr ⟨by rw [HRE.out]; simp, by rw [HRE.out]; rfl⟩⟩
  have hre : r = (opsOf sn k (pg + 1) b, 0) := by rw [HBG.out, if_neg hlong, if_neg (by omega), HSN.out]
  have HRE := Lib.hid hre
  clear hre
  have hpg : pg + 1 ≤ 1073741824 := by omega
  have HPG := Lib.hid hpg
  clear hpg
  have hlong1 : decide (16 * (a : Int) < (nb : Int)) = false := decide_eq_false (by omega)
  have hlong2 : decide (16 * a < nb) = false := decide_eq_false hlong
  have HLONG := Lib.hid hlong
  clear hlong
  have hold1 : decide ((1073741824 : Int) ≤ (pg : Int)) = false := decide_eq_false hold
  have hold2 : decide (1073741824 ≤ pg) = false := decide_eq_false (by omega)
  clear hold
  have hmod := HMOD.out
  go_wp2_with fail
  clear hold1 hold2 hlong1 hlong2
  rw [HMOD.out]
  clear hmod
  have hsv0 := Blk.new w4 86 #[.slice none 0 0, .int .i64 0]
  have hsp0 := Blk.new (w4.alloc (.cells #[.slice none 0 0, .int .i64 0] 86)) 37 #[.pointer (some ⟨w4.heap.size, 0, none⟩)]
  rw [show (w4.alloc (.cells #[.slice none 0 0, .int .i64 0] 86)).heap.size = w4.heap.size + 1 by simp] at hsp0
  have hsv5 := hsv0.alloc (.cells #[.pointer (some ⟨w4.heap.size, 0, none⟩)] 37)
  have hb45 : Below w4.heap.size w4 ((w4.alloc (.cells #[.slice none 0 0, .int .i64 0] 86)).alloc (.cells #[.pointer (some ⟨w4.heap.size, 0, none⟩)] 37)) := ((Below.refl _ w4).alloc (Nat.le_refl _) _).alloc (by simp) _
  obtain ⟨w5, hw5⟩ : ∃ w5, w5 = (w4.alloc (.cells #[.slice none 0 0, .int .i64 0] 86)).alloc (.cells #[.pointer (some ⟨w4.heap.size, 0, none⟩)] 37) := ⟨_, rfl⟩
  rw [← hw5] at hsp0 hsv5 hb45 ⊢
  obtain ⟨gv, hgv⟩ : ∃ gv, gv = w4.heap.size := ⟨_, rfl⟩
  have hlo : w.heap.size ≤ gv := by rw [hgv]; exact hb02.size
  rw [← hgv] at hsp0 hsv5 ⊢
  have hB5 : Bld w B0 f s gv (gv + 1) gs [] 0 none 0 [] w5 := ⟨rfl, hsv5, Own.nil _ _ _ _ _, .nil, hsp0, hgs2.belowAll hb45, h2.below hb45, below_all hb02 hb45, hlo⟩
  have hrb5 := hrb2.below hb45
  obtain ⟨ka, hka⟩ : ∃ ka : Nat, ka = k * a := ⟨_, rfl⟩
  have hka2 : ka ≤ 2047 := by
    obtain rfl | rfl : k = 0 ∨ k = 1 := by omega
    · omega
    · omega
  have hmul1 : IntKind.i64.wrap ((k : Int) * (a : Int)) = (ka : Int) := by
    rw [hka]
    obtain rfl | rfl : k = 0 ∨ k = 1 := by omega
    · rw [IntWalk.i64_in _ (by omega)]; omega
    · rw [IntWalk.i64_in _ (by omega)]; omega
  have HKA := Lib.hid hka
  have HMUL := Lib.hid hmul1
  have HNCH : Hid (nch b = (nb + 15) / 16) := by
    have e := HNB.out
    exact Lib.hid (by unfold nch; rw [e])
  obtain ⟨M, hM⟩ : ∃ M, M = nch b := ⟨_, rfl⟩
  have HM := Lib.hid hM
  have hMn : M = (nb + 15) / 16 := by rw [hM]; exact HNCH.out
  have HMN := Lib.hid hMn
  have hM1 : nb ≤ 16 * M := by omega
  have hM2 : 16 * M < nb + 16 := by omega
  have hM3 : M ≤ 2048 := by have := HLONG.out; omega
  clear hmul1 hka hM hMn hw5 hgv hsv0 hsp0 hsv5 hb45 hgs2 h2 hb02 hrb2 zs
  go_wp2_with fail
  go_loopw [13] (fun i wr => ∃ (j : Nat) (A' : Option Addr) (c' : Nat) (vs : List Value), j ≤ M ∧ i = .int .i64 ((16 * j : Nat) : Int) ∧ Bld w B0 f s gv (gv + 1) gs (dataOps ((2 + ka : Nat) : Int) b j) j A' c' vs wr ∧ Row wr Ab (bv b))
    (fun i _ => nb + 16 - (intOf i).toNat)
  case atStart => exact ⟨0, none, 0, [], Nat.zero_le _, rfl, hB5, hrb5⟩
  case round =>
    obtain ⟨j, A', c', vs, hj, rfl, hB, hrow⟩ := hrel
    clear hB5 hrb5
    by_cases hlt : 16 * j < nb
    · have hjl : 16 * j < b.length := by rw [HNB.out]; exact hlt
      obtain ⟨gb, ob, rfl, hgb, hcs⟩ := hrow.at_ (by rw [bv_length]; omega)
      have hgbw : gb < w.heap.size := HLB.out _ rfl (by rw [HNB.out]; omega)
      have HGBW := Lib.hid hgbw
      clear hgbw
      have zs := cell1 hB.bs
      obtain ⟨Z, hZ⟩ : ∃ Z : List UInt8, Z = List.replicate 16 0 := ⟨_, rfl⟩
      have hmk := make16b wr
      rw [← hZ] at hmk
      obtain ⟨gX, hgX⟩ : ∃ gX, gX = wr.heap.size := ⟨_, rfl⟩
      have hX : (wr.alloc (.cells (bv Z).toArray 5)).heap[gX]? = some (.cells (bv Z).toArray 5 (0, 0)) := by rw [hgX]; exact heap_alloc_new wr _
      have hbX : Below wr.heap.size wr (wr.alloc (.cells (bv Z).toArray 5)) := (Below.refl _ wr).alloc (Nat.le_refl _) _
      have hrowX := (hrow.drop (16 * j) (cb + 1) (by rw [bv_length, HNB.out]; omega)).take 16
      rw [if_neg (by omega), Option.map_some, addr_add, bv_drop, bv_take] at hrowX
      have hrowX := hrowX.alloc (.cells (bv Z).toArray 5)
      obtain ⟨PD, hPD⟩ : ∃ PD, PD = pad16 (b.drop (16 * j)) := ⟨_, rfl⟩
      have hPDl : PD.length = 16 := by rw [hPD]; exact pad16_length _
      have hspl := splice_pad (b.drop (16 * j))
      rw [← hPD, ← hZ] at hspl
      have hCHl : (bv ((b.drop (16 * j)).take 16)).length = Nat.min (nb - 16 * j) 16 := by
        rw [bv_length, List.length_take, List.length_drop, HNB.out]
        exact Nat.min_comm _ _
      have hcp : (Builtin.copy_ #[23, 23] 3 #[.slice (some ⟨gX, 0, none⟩) 16 16, .slice (some ⟨gb, ob + 16 * j, none⟩) (nb - 16 * j) (cb - 16 * j)]).run Try.prog (wr.alloc (.cells (bv Z).toArray 5)) = .ok (goInt (bv ((b.drop (16 * j)).take 16)).length) ((wr.alloc (.cells (bv Z).toArray 5)).setRow gX (bv PD).toArray) := by
        have h := run_copy_row (P := Try.prog) (wr.alloc (.cells (bv Z).toArray 5)) 23 23 3 5 gX 0 16 16 ⟨gb, ob + 16 * j, none⟩ (nb - 16 * j) (cb - 16 * j) (bv Z).toArray 5 (bv ((b.drop (16 * j)).take 16)) Try.underlying23 (by kernel_rfl) hX hCHl (fun i v hv => by
          rw [addr_add]
          rcases hrowX with h0 | ⟨g', o', he, hc⟩
          · rw [h0] at hv; cases hv
          · injection he with he
            injection he with h1 h2
            subst h1 h2
            exact hc i v hv) (by
          have := hCHl
          rw [hCHl, List.size_toArray, bv_length, hZ, List.length_replicate]
          exact Nat.le_trans (by rw [Nat.zero_add]; exact Nat.min_le_right _ _) (Nat.le_refl 16)) (bv_one _)
        rw [h]
        congr 2
        rw [← hspl]
        unfold splice
        simp only [List.take_zero, List.nil_append]
      obtain ⟨w7, hw7⟩ : ∃ w7, w7 = (wr.alloc (.cells (bv Z).toArray 5)).setRow gX (bv PD).toArray := ⟨_, rfl⟩
      rw [← hw7] at hcp
      have hX7 : w7.heap[gX]? = some (.cells (bv PD).toArray 5 (0, 0)) := by rw [hw7]; exact setRow_heap _ gX _ _ _ _ hX
      have hb7 : Below wr.heap.size wr w7 := by rw [hw7]; exact below_setRow hbX (by omega) _
      have hB7 := hB.below hb7
      have hrow7 := hrow.below hb7
      have zs7 := cell1 hB7.bs
      have hgXv : gX ≠ gv := by have := hB.blk.lt; omega
      have hgXo : ∀ i, ownB A' c' = some i → gX ≠ i := fun i hi => by have := (hB.own.lt i hi).2; omega
      rw [← hgX] at hmk
      have HPDL := Lib.hid hPDl
      have HPD := Lib.hid hPD
      have HX7 := Lib.hid hX7
      have HXO := Lib.hid hgXo
      have HGX := Lib.hid hgX
      clear hZ hPD hPDl hspl hCHl hw7 hX hbX hrowX hX7 hrow hcs hgXo hgX
      go_wp2_with fail
      refine (HLN.out _ hB7.sto).mono ?_
      rintro e w8 ⟨rfl, rfl⟩
      go_wp2_with fail
      refine (HAR.out _).mono ?_
      rintro e w9 ⟨rfl, rfl⟩
      have hmul := HMUL.out
      have hapw := appW_any w.heap.size gv (gv + 1) gs 0 A' j c' vs (2 + (ka : Int) + (j : Int)) (some ⟨gX, 0, none⟩) 16 16 w9 hB7.bp hB7.blk hB7.own hB7.bel.size (by omega)
      go_wp2_with fail
      refine hapw.mono ?_
      rintro e w10 ⟨rfl, hga, hgx, hap⟩
      rw [show 2 + (ka : Int) + (j : Int) = ((2 + ka : Nat) : Int) + (j : Int) by omega] at hga
      obtain ⟨A6, c6, hB10⟩ := hB7.appW hap hga hgx HPDL.out (Nat.le_refl _) (by omega) (Row.of_blk HX7.out) (Byt.of_blk HX7.out)
      have hrow10 : Row w10 (some ⟨gb, ob, none⟩) (bv b) := by
        obtain ⟨A8, c8, _, _, ho⟩ := hap
        refine hrow7.only ho (fun a ha hk => ?_)
        injection ha with ha
        subst ha
        simp only at hk
        have h1 := hB7.only (w2 := w9) _ hk
        have h2 := h1.2.1
        have h3 := HGBW.out
        omega
      rw [HPD.out] at hB10
      clear hapw hga hgx hap hB7 hB
      go_wp2_with fail
      go_roundw
      case rel => exact ⟨j + 1, A6, c6, _, by omega, by go_num, hB10, hrow10⟩
      case measure => simp [intOf]; omega
    · obtain rfl : j = M := by omega
      have hfg := HNB.out
      have hw1 : Below wr.heap.size wr (wr.alloc (.cells #[.slice Ab nb cb] 23)) := (Below.refl _ wr).alloc (Nat.le_refl _) _
      have hof := of_any (some ⟨wr.heap.size, 0, none⟩) 1 1 [⟨Ab, cb, b⟩] (wr.alloc (.cells #[.slice Ab b.length cb] 23)) rfl row_new13 (fun p hp => by rw [List.mem_singleton.1 hp]; exact hrow.alloc _) (by omega) (fun p hp => by rw [List.mem_singleton.1 hp, hfg]; omega)
      simp only [List.flatMap_cons, List.flatMap_nil, List.append_nil] at hof
      rw [hfg] at hof
      have had := adler_lt b
      obtain ⟨ad, hade⟩ : ∃ ad, ad = adler b := ⟨_, rfl⟩
      rw [← hade] at hof had
      have HAD := Lib.hid hade
      have hfit : fitAll 4 [((pg : Int) + 1), (nb : Int), (ad : Int)] = true := by
        have h1 := HPG.out
        unfold fitAll ft lim
        simp only [List.all_cons, List.all_nil, Bool.and_true, Bool.and_eq_true, decide_eq_true_eq]
        have e : (if (4 : Int) = 8 then bigTop else 256 ^ (4 : Int).toNat) = 4294967296 := by decide
        rw [e]
        omega
      have HFIT := Lib.hid hfit
      have hwX := hB.below hw1
      have hbX : Below wr.heap.size wr wr := Below.refl _ _
      have HADL := Lib.hid had
      have hpgn : pg ≤ 2000000000 := by have := HPG.out; omega
      have hlt1 : decide (16 * (j : Int) < (nb : Int)) = false := decide_eq_false (by omega)
      have hlt2 : decide (16 * j < nb) = false := decide_eq_false hlt
      have HM1 := Lib.hid hM1
      have HM2 := Lib.hid hM2
      clear hfg hade hfit hbX had hM1 hM2 hlt hj
      go_wp2_with fail
      refine hof.mono ?_
      rintro e w6 ⟨rfl, hb6⟩
      have hb06 := below_all hw1 hb6
      have hB6 := hB.below hb06
      have hput := put_yes_at w6.heap.size none 0 0 4 4 rfl (some ⟨w6.heap.size, 0, none⟩) 3 3 [((pg : Int) + 1), (nb : Int), (ad : Int)] [] (w6.alloc (.cells #[.int .i64 ((pg : Int) + 1), .int .i64 (nb : Int), .int .i64 (ad : Int)] 3)) rfl row_new13 (by simp) (Own.nil _ _ _ _ _) rfl HFIT.out (fun a _ => by simp [ownB]) (by omega)
      clear hof hb6 hw1 hB hrow hwX
      go_wp2_with fail
      refine hput.mono ?_
      rintro e w7 ⟨Am, cm, rfl, hown7, ho7, _⟩
      have e12 : (0 + 3 * 4 : Nat) = 12 := rfl
      have hmk : ([] ++ putB 4 [((pg : Int) + 1), (nb : Int), (ad : Int)] : List UInt8) = markX (pg + 1) b := by
        have h1 : ((pg : Int) + 1).toNat = pg + 1 := by omega
        unfold putB markX
        simp only [List.flatMap_cons, List.flatMap_nil, List.append_nil, List.nil_append, Int.toNat_natCast, h1, HNB.out, HAD.out, List.append_assoc]
      rw [hmk, e12] at hown7
      have hb67 : Below w6.heap.size w6 w7 := below_all ((Below.refl _ w6).alloc (Nat.le_refl _) _) (ho7.below (fun i _ hk => by simp [ownB] at hk))
      have hB7 := hB6.below hb67
      have hi0 := HI0.out
      have hz0 := HZ0.out
      have hz1 := HZ1.out
      have hz2 := HZ2.out
      have hops : opsOf sn k (pg + 1) b = ((dataOps ((2 + ka : Nat) : Int) b j ++ [.flush]) ++ [.write (k : Int) (sealed (markX (pg + 1) b))]) ++ [.flush] := by
        unfold opsOf
        rw [HSN.out, ← HA.out, ← HKA.out, ← HM.out]
        simp only [List.append_assoc, List.cons_append, List.nil_append]
      have HOPS := Lib.hid hops
      clear hput ho7 e12 hmk hb67 hB6 hb06 hops
      go_wp2_with fail
      refine wp_region_seqS (fun u => Blk u (gv + 1) 37 #[.pointer (some ⟨gv, 0, none⟩)]) (.hold 0 (.hold 1 (.hold 2 (.take 3 .addr (.take 5 .copy (.fork 4 (.alone 6 (.alone 7 (.hold 8 (.take 9 .addr (.alone 10 .fin))))) 6 (.alone 4 (.alone 7 (.hold 8 (.take 9 .addr (.alone 10 .fin))))))))))) (by kernel_rfl) (by kernel_rfl) (by kernel_rfl) ?_ ?_
      · exact hB7.bp.drew
      simp only [preS, nxtS, List.getElem?_toArray, List.getElem?_cons_zero, List.getElem?_cons_succ, opAt, ghosts, List.nil_append, gInt, ghost, List.cons_append]
      obtain ⟨y0, y1, yf0, yf1⟩ := cell2 hB7.blk.drew
      go_wp2_with fail
      refine next_hold (.pointer (some ⟨gv, 0, none⟩)) rfl (hold_cell 37 _ rfl ⟨gv + 1, 0, none⟩ rfl _ _ (fun u h => cell1 h) rfl Try.underlying37) ?_
      go_wp2_with fail
      refine next_hold (.pointer (some ⟨gv, 0, none⟩)) rfl (hold_cell 37 _ rfl ⟨gv + 1, 0, none⟩ rfl _ _ (fun u h => cell1 h) rfl Try.underlying37) ?_
      go_wp2_with fail
      refine next_hold (.pointer (some ⟨gv, 0, none⟩)) rfl (hold_nil _ rfl ⟨gv, 0, none⟩ rfl) ?_
      go_wp2_with fail
      refine next_fork ?_ ?_
      · go_wp2_with fail
        refine nextS hB7.bp.drew ?_
        go_wp2_with fail
        refine nextS (hB7.bp.drew.alloc _) ?_
        go_wp2_with (at_builtin; refine wpList_app _ rfl _ _ 84 84 rfl w.heap.size 87 i0 _ 1 8 Try.underlying84 hi0 hz0 hz1 hz2 rfl A' (j) c' _ rfl (hB7.own.drew.alloc _) _ 1 _ rfl (Src.new Try.underlying84 rfl (by simp [Value.oneCell'])) (by simp only [maxLen]; omega) (by omega) (Nat.le_trans hB7.bel.size (by simp)) ?_; intro A4 c4' w4' hown4 hg4 hb4; refine Classical.byContradiction fun hstop => ?_)
        refine absurd ?_ hstop
        clear hstop
        have hp4 := (hB7.bp.drew.alloc (.cells #[.func (.func 38) #[] #[.pointer (some ⟨gs, 0, none⟩)]] 87)).grown hg4 (fun hk => (hB7.own.drew.alloc _).blk_ne (hB7.bp.drew.alloc (.cells #[.func (.func 38) #[] #[.pointer (some ⟨gs, 0, none⟩)]] 87)) (by decide) _ hk rfl)
        have hv4 := (hB7.blk.drew.alloc (.cells #[.func (.func 38) #[] #[.pointer (some ⟨gs, 0, none⟩)]] 87)).grown hg4 (fun hk => (hB7.own.drew.alloc _).blk_ne (hB7.blk.drew.alloc (.cells #[.func (.func 38) #[] #[.pointer (some ⟨gs, 0, none⟩)]] 87)) (by decide) _ hk rfl)
        have hbWW : Below w7.heap.size w7 (w7.drew.alloc (.cells #[.func (.func 38) #[] #[.pointer (some ⟨gs, 0, none⟩)]] 87)) := (Below.refl _ w7).drew.alloc (Nat.le_refl _) _
        have hap := AppPost.of hbWW (hB7.blk.belowAll hbWW) (hB7.own.below hbWW) hB7.blk.lt hown4 hg4 hb4
        have hp5 := hp4.far (p := ⟨gv, 0, none⟩) (show gv + 1 ≠ gv by omega) (.slice A4 (j + 1) c4')
        obtain ⟨AhB8, chB8, hB8⟩ := hB7.appF hap
        have honhB8 := hap.on
        have HONhB8 := Lib.hid honhB8
        have HIDhB8 := Lib.hid hB8
        clear hap hB8 honhB8
        refine nextS hp4 ?_
        obtain ⟨z0, z1, zf0, zf1⟩ := cell2 hv4
        go_wp2_with fail
        refine next_hold (.pointer (some ⟨gv, 0, none⟩)) rfl (hold_nil _ rfl ⟨gv, 0, none⟩ rfl) ?_
        go_wp2_with fail
        refine nextS hp5 ?_
        refine ends_normal ?_
        obtain ⟨WhB8, hWhB8⟩ : ∃ WN, WN = w4'.setCell ⟨gv, 0, none⟩ (.slice A4 (j + 1) c4') := ⟨_, rfl⟩
        rw [← hWhB8] at HIDhB8 HONhB8 ⊢
        have hB8 := HIDhB8.out
        clear HIDhB8 hWhB8 hp5 hp4 hv4 hbWW z0 z1 zf0 zf1 hown4 hg4 hb4 y0 y1 yf0 yf1
        have hm8 := hB7.row HONhB8.out hown7.row (Byt.of_own hown7)
        have hsl := seal_any Am 12 cm (markX (pg + 1) b) WhB8 (markX_length _ _) hm8 (by omega)
        go_wp2_with fail
        refine hsl.mono ?_
        rintro e w9 ⟨A9, c9, rfl, hown9, hb9⟩
        have hB9 := hB8.below hb9
        have hnc9 := hown9.2.1
        have hapw := appW_any w.heap.size gv (gv + 1) gs 0 AhB8 (j + 1) chB8 _ (k : Int) A9 16 c9 w9 hB9.bp hB9.blk hB9.own hB9.bel.size (by omega)
        clear hsl hb9 hB8
        go_wp2_with fail
        refine hapw.mono ?_
        rintro e w10 ⟨rfl, hga, hgx, hap⟩
        obtain ⟨A10, c10, hB10⟩ := hB9.appW hap hga hgx (by rw [sealed_length, markX_length]) hnc9 (by omega) hown9.row (Byt.of_own hown9)
        clear hapw hga hgx hap hB9 hown9
        go_wp2_with fail
        refine wp_region_seqS (fun u => Blk u (gv + 1) 37 #[.pointer (some ⟨gv, 0, none⟩)]) (.hold 0 (.hold 1 (.hold 2 (.take 3 .addr (.take 5 .copy (.fork 4 (.alone 6 (.alone 7 (.hold 8 (.take 9 .addr (.alone 10 .fin))))) 6 (.alone 4 (.alone 7 (.hold 8 (.take 9 .addr (.alone 10 .fin))))))))))) (by kernel_rfl) (by kernel_rfl) (by kernel_rfl) ?_ ?_
        · exact hB10.bp.drew
        simp only [preS, nxtS, List.getElem?_toArray, List.getElem?_cons_zero, List.getElem?_cons_succ, opAt, ghosts, List.nil_append, gInt, ghost, List.cons_append]
        obtain ⟨y0, y1, yf0, yf1⟩ := cell2 hB10.blk.drew
        go_wp2_with fail
        refine next_hold (.pointer (some ⟨gv, 0, none⟩)) rfl (hold_cell 37 _ rfl ⟨gv + 1, 0, none⟩ rfl _ _ (fun u h => cell1 h) rfl Try.underlying37) ?_
        go_wp2_with fail
        refine next_hold (.pointer (some ⟨gv, 0, none⟩)) rfl (hold_cell 37 _ rfl ⟨gv + 1, 0, none⟩ rfl _ _ (fun u h => cell1 h) rfl Try.underlying37) ?_
        go_wp2_with fail
        refine next_hold (.pointer (some ⟨gv, 0, none⟩)) rfl (hold_nil _ rfl ⟨gv, 0, none⟩ rfl) ?_
        go_wp2_with fail
        refine next_fork ?_ ?_
        · go_wp2_with fail
          refine nextS hB10.bp.drew ?_
          go_wp2_with fail
          refine nextS (hB10.bp.drew.alloc _) ?_
          go_wp2_with (at_builtin; refine wpList_app _ rfl _ _ 84 84 rfl w.heap.size 87 i0 _ 1 8 Try.underlying84 hi0 hz0 hz1 hz2 rfl A10 (j + 1 + 1) c10 _ rfl (hB10.own.drew.alloc _) _ 1 _ rfl (Src.new Try.underlying84 rfl (by simp [Value.oneCell'])) (by simp only [maxLen]; omega) (by omega) (Nat.le_trans hB10.bel.size (by simp)) ?_; intro A4 c4' w4' hown4 hg4 hb4; refine Classical.byContradiction fun hstop => ?_)
          refine absurd ?_ hstop
          clear hstop
          have hp4 := (hB10.bp.drew.alloc (.cells #[.func (.func 38) #[] #[.pointer (some ⟨gs, 0, none⟩)]] 87)).grown hg4 (fun hk => (hB10.own.drew.alloc _).blk_ne (hB10.bp.drew.alloc (.cells #[.func (.func 38) #[] #[.pointer (some ⟨gs, 0, none⟩)]] 87)) (by decide) _ hk rfl)
          have hv4 := (hB10.blk.drew.alloc (.cells #[.func (.func 38) #[] #[.pointer (some ⟨gs, 0, none⟩)]] 87)).grown hg4 (fun hk => (hB10.own.drew.alloc _).blk_ne (hB10.blk.drew.alloc (.cells #[.func (.func 38) #[] #[.pointer (some ⟨gs, 0, none⟩)]] 87)) (by decide) _ hk rfl)
          have hbWW : Below w10.heap.size w10 (w10.drew.alloc (.cells #[.func (.func 38) #[] #[.pointer (some ⟨gs, 0, none⟩)]] 87)) := (Below.refl _ w10).drew.alloc (Nat.le_refl _) _
          have hap := AppPost.of hbWW (hB10.blk.belowAll hbWW) (hB10.own.below hbWW) hB10.blk.lt hown4 hg4 hb4
          have hp5 := hp4.far (p := ⟨gv, 0, none⟩) (show gv + 1 ≠ gv by omega) (.slice A4 (j + 1 + 1 + 1) c4')
          obtain ⟨AhBZ, chBZ, hBZ⟩ := hB10.appF hap
          have honhBZ := hap.on
          have HONhBZ := Lib.hid honhBZ
          have HIDhBZ := Lib.hid hBZ
          clear hap hBZ honhBZ
          refine nextS hp4 ?_
          obtain ⟨z0, z1, zf0, zf1⟩ := cell2 hv4
          go_wp2_with fail
          refine next_hold (.pointer (some ⟨gv, 0, none⟩)) rfl (hold_nil _ rfl ⟨gv, 0, none⟩ rfl) ?_
          go_wp2_with fail
          refine nextS hp5 ?_
          refine ends_normal ?_
          obtain ⟨WhBZ, hWhBZ⟩ : ∃ WN, WN = w4'.setCell ⟨gv, 0, none⟩ (.slice A4 (j + 1 + 1 + 1) c4') := ⟨_, rfl⟩
          rw [← hWhBZ] at HIDhBZ HONhBZ ⊢
          have hBZ := HIDhBZ.out
          clear HIDhBZ hWhBZ hp5 hp4 hv4 hbWW z0 z1 zf0 zf1 hown4 hg4 hb4 y0 y1 yf0 yf1
          have zq := cell1 hBZ.bp
          go_wp2_with fail
          go_ret2
          exact ⟨hBZ.bel, .inl ⟨by rw [HRE.out], gv, rfl, by rw [HRE.out, HOPS.out]; exact hBZ.saver, hlo⟩⟩
        · go_wp2_with fail
          refine nextS (hB10.bp.drew.alloc _) ?_
          obtain ⟨y0, y1, yf0, yf1⟩ := cell2 (hB10.blk.alloc (.cells #[.func (.func 38) #[] #[.pointer (some ⟨gs, 0, none⟩)]] 87))
          go_wp2_with fail
          refine nextS (hB10.bp.drew.alloc _) ?_
          go_wp2_with (at_builtin; refine wpList_app _ rfl _ _ 84 84 rfl w.heap.size 87 i0 _ 1 8 Try.underlying84 hi0 hz0 hz1 hz2 rfl A10 (j + 1 + 1) c10 _ rfl (hB10.own.drew.alloc _) _ 1 _ rfl (Src.new Try.underlying84 rfl (by simp [Value.oneCell'])) (by simp only [maxLen]; omega) (by omega) (Nat.le_trans hB10.bel.size (by simp)) ?_; intro A4 c4' w4' hown4 hg4 hb4; refine Classical.byContradiction fun hstop => ?_)
          refine absurd ?_ hstop
          clear hstop
          have hp4 := (hB10.bp.drew.alloc (.cells #[.func (.func 38) #[] #[.pointer (some ⟨gs, 0, none⟩)]] 87)).grown hg4 (fun hk => (hB10.own.drew.alloc _).blk_ne (hB10.bp.drew.alloc (.cells #[.func (.func 38) #[] #[.pointer (some ⟨gs, 0, none⟩)]] 87)) (by decide) _ hk rfl)
          have hv4 := (hB10.blk.drew.alloc (.cells #[.func (.func 38) #[] #[.pointer (some ⟨gs, 0, none⟩)]] 87)).grown hg4 (fun hk => (hB10.own.drew.alloc _).blk_ne (hB10.blk.drew.alloc (.cells #[.func (.func 38) #[] #[.pointer (some ⟨gs, 0, none⟩)]] 87)) (by decide) _ hk rfl)
          have hbWW : Below w10.heap.size w10 (w10.drew.alloc (.cells #[.func (.func 38) #[] #[.pointer (some ⟨gs, 0, none⟩)]] 87)) := (Below.refl _ w10).drew.alloc (Nat.le_refl _) _
          have hap := AppPost.of hbWW (hB10.blk.belowAll hbWW) (hB10.own.below hbWW) hB10.blk.lt hown4 hg4 hb4
          have hp5 := hp4.far (p := ⟨gv, 0, none⟩) (show gv + 1 ≠ gv by omega) (.slice A4 (j + 1 + 1 + 1) c4')
          obtain ⟨AhBZ, chBZ, hBZ⟩ := hB10.appF hap
          have honhBZ := hap.on
          have HONhBZ := Lib.hid honhBZ
          have HIDhBZ := Lib.hid hBZ
          clear hap hBZ honhBZ
          refine nextS hp4 ?_
          obtain ⟨z0, z1, zf0, zf1⟩ := cell2 hv4
          go_wp2_with fail
          refine next_hold (.pointer (some ⟨gv, 0, none⟩)) rfl (hold_nil _ rfl ⟨gv, 0, none⟩ rfl) ?_
          go_wp2_with fail
          refine nextS hp5 ?_
          refine ends_normal ?_
          obtain ⟨WhBZ, hWhBZ⟩ : ∃ WN, WN = w4'.setCell ⟨gv, 0, none⟩ (.slice A4 (j + 1 + 1 + 1) c4') := ⟨_, rfl⟩
          rw [← hWhBZ] at HIDhBZ HONhBZ ⊢
          have hBZ := HIDhBZ.out
          clear HIDhBZ hWhBZ hp5 hp4 hv4 hbWW z0 z1 zf0 zf1 hown4 hg4 hb4 y0 y1 yf0 yf1
          have zq := cell1 hBZ.bp
          go_wp2_with fail
          go_ret2
          exact ⟨hBZ.bel, .inl ⟨by rw [HRE.out], gv, rfl, by rw [HRE.out, HOPS.out]; exact hBZ.saver, hlo⟩⟩
      · go_wp2_with fail
        refine nextS (hB7.bp.drew.alloc _) ?_
        obtain ⟨y0, y1, yf0, yf1⟩ := cell2 (hB7.blk.alloc (.cells #[.func (.func 38) #[] #[.pointer (some ⟨gs, 0, none⟩)]] 87))
        go_wp2_with fail
        refine nextS (hB7.bp.drew.alloc _) ?_
        go_wp2_with (at_builtin; refine wpList_app _ rfl _ _ 84 84 rfl w.heap.size 87 i0 _ 1 8 Try.underlying84 hi0 hz0 hz1 hz2 rfl A' (j) c' _ rfl (hB7.own.drew.alloc _) _ 1 _ rfl (Src.new Try.underlying84 rfl (by simp [Value.oneCell'])) (by simp only [maxLen]; omega) (by omega) (Nat.le_trans hB7.bel.size (by simp)) ?_; intro A4 c4' w4' hown4 hg4 hb4; refine Classical.byContradiction fun hstop => ?_)
        refine absurd ?_ hstop
        clear hstop
        have hp4 := (hB7.bp.drew.alloc (.cells #[.func (.func 38) #[] #[.pointer (some ⟨gs, 0, none⟩)]] 87)).grown hg4 (fun hk => (hB7.own.drew.alloc _).blk_ne (hB7.bp.drew.alloc (.cells #[.func (.func 38) #[] #[.pointer (some ⟨gs, 0, none⟩)]] 87)) (by decide) _ hk rfl)
        have hv4 := (hB7.blk.drew.alloc (.cells #[.func (.func 38) #[] #[.pointer (some ⟨gs, 0, none⟩)]] 87)).grown hg4 (fun hk => (hB7.own.drew.alloc _).blk_ne (hB7.blk.drew.alloc (.cells #[.func (.func 38) #[] #[.pointer (some ⟨gs, 0, none⟩)]] 87)) (by decide) _ hk rfl)
        have hbWW : Below w7.heap.size w7 (w7.drew.alloc (.cells #[.func (.func 38) #[] #[.pointer (some ⟨gs, 0, none⟩)]] 87)) := (Below.refl _ w7).drew.alloc (Nat.le_refl _) _
        have hap := AppPost.of hbWW (hB7.blk.belowAll hbWW) (hB7.own.below hbWW) hB7.blk.lt hown4 hg4 hb4
        have hp5 := hp4.far (p := ⟨gv, 0, none⟩) (show gv + 1 ≠ gv by omega) (.slice A4 (j + 1) c4')
        obtain ⟨AhB8, chB8, hB8⟩ := hB7.appF hap
        have honhB8 := hap.on
        have HONhB8 := Lib.hid honhB8
        have HIDhB8 := Lib.hid hB8
        clear hap hB8 honhB8
        refine nextS hp4 ?_
        obtain ⟨z0, z1, zf0, zf1⟩ := cell2 hv4
        go_wp2_with fail
        refine next_hold (.pointer (some ⟨gv, 0, none⟩)) rfl (hold_nil _ rfl ⟨gv, 0, none⟩ rfl) ?_
        go_wp2_with fail
        refine nextS hp5 ?_
        refine ends_normal ?_
        obtain ⟨WhB8, hWhB8⟩ : ∃ WN, WN = w4'.setCell ⟨gv, 0, none⟩ (.slice A4 (j + 1) c4') := ⟨_, rfl⟩
        rw [← hWhB8] at HIDhB8 HONhB8 ⊢
        have hB8 := HIDhB8.out
        clear HIDhB8 hWhB8 hp5 hp4 hv4 hbWW z0 z1 zf0 zf1 hown4 hg4 hb4 y0 y1 yf0 yf1
        have hm8 := hB7.row HONhB8.out hown7.row (Byt.of_own hown7)
        have hsl := seal_any Am 12 cm (markX (pg + 1) b) WhB8 (markX_length _ _) hm8 (by omega)
        go_wp2_with fail
        refine hsl.mono ?_
        rintro e w9 ⟨A9, c9, rfl, hown9, hb9⟩
        have hB9 := hB8.below hb9
        have hnc9 := hown9.2.1
        have hapw := appW_any w.heap.size gv (gv + 1) gs 0 AhB8 (j + 1) chB8 _ (k : Int) A9 16 c9 w9 hB9.bp hB9.blk hB9.own hB9.bel.size (by omega)
        clear hsl hb9 hB8
        go_wp2_with fail
        refine hapw.mono ?_
        rintro e w10 ⟨rfl, hga, hgx, hap⟩
        obtain ⟨A10, c10, hB10⟩ := hB9.appW hap hga hgx (by rw [sealed_length, markX_length]) hnc9 (by omega) hown9.row (Byt.of_own hown9)
        clear hapw hga hgx hap hB9 hown9
        go_wp2_with fail
        refine wp_region_seqS (fun u => Blk u (gv + 1) 37 #[.pointer (some ⟨gv, 0, none⟩)]) (.hold 0 (.hold 1 (.hold 2 (.take 3 .addr (.take 5 .copy (.fork 4 (.alone 6 (.alone 7 (.hold 8 (.take 9 .addr (.alone 10 .fin))))) 6 (.alone 4 (.alone 7 (.hold 8 (.take 9 .addr (.alone 10 .fin))))))))))) (by kernel_rfl) (by kernel_rfl) (by kernel_rfl) ?_ ?_
        · exact hB10.bp.drew
        simp only [preS, nxtS, List.getElem?_toArray, List.getElem?_cons_zero, List.getElem?_cons_succ, opAt, ghosts, List.nil_append, gInt, ghost, List.cons_append]
        obtain ⟨y0, y1, yf0, yf1⟩ := cell2 hB10.blk.drew
        go_wp2_with fail
        refine next_hold (.pointer (some ⟨gv, 0, none⟩)) rfl (hold_cell 37 _ rfl ⟨gv + 1, 0, none⟩ rfl _ _ (fun u h => cell1 h) rfl Try.underlying37) ?_
        go_wp2_with fail
        refine next_hold (.pointer (some ⟨gv, 0, none⟩)) rfl (hold_cell 37 _ rfl ⟨gv + 1, 0, none⟩ rfl _ _ (fun u h => cell1 h) rfl Try.underlying37) ?_
        go_wp2_with fail
        refine next_hold (.pointer (some ⟨gv, 0, none⟩)) rfl (hold_nil _ rfl ⟨gv, 0, none⟩ rfl) ?_
        go_wp2_with fail
        refine next_fork ?_ ?_
        · go_wp2_with fail
          refine nextS hB10.bp.drew ?_
          go_wp2_with fail
          refine nextS (hB10.bp.drew.alloc _) ?_
          go_wp2_with (at_builtin; refine wpList_app _ rfl _ _ 84 84 rfl w.heap.size 87 i0 _ 1 8 Try.underlying84 hi0 hz0 hz1 hz2 rfl A10 (j + 1 + 1) c10 _ rfl (hB10.own.drew.alloc _) _ 1 _ rfl (Src.new Try.underlying84 rfl (by simp [Value.oneCell'])) (by simp only [maxLen]; omega) (by omega) (Nat.le_trans hB10.bel.size (by simp)) ?_; intro A4 c4' w4' hown4 hg4 hb4; refine Classical.byContradiction fun hstop => ?_)
          refine absurd ?_ hstop
          clear hstop
          have hp4 := (hB10.bp.drew.alloc (.cells #[.func (.func 38) #[] #[.pointer (some ⟨gs, 0, none⟩)]] 87)).grown hg4 (fun hk => (hB10.own.drew.alloc _).blk_ne (hB10.bp.drew.alloc (.cells #[.func (.func 38) #[] #[.pointer (some ⟨gs, 0, none⟩)]] 87)) (by decide) _ hk rfl)
          have hv4 := (hB10.blk.drew.alloc (.cells #[.func (.func 38) #[] #[.pointer (some ⟨gs, 0, none⟩)]] 87)).grown hg4 (fun hk => (hB10.own.drew.alloc _).blk_ne (hB10.blk.drew.alloc (.cells #[.func (.func 38) #[] #[.pointer (some ⟨gs, 0, none⟩)]] 87)) (by decide) _ hk rfl)
          have hbWW : Below w10.heap.size w10 (w10.drew.alloc (.cells #[.func (.func 38) #[] #[.pointer (some ⟨gs, 0, none⟩)]] 87)) := (Below.refl _ w10).drew.alloc (Nat.le_refl _) _
          have hap := AppPost.of hbWW (hB10.blk.belowAll hbWW) (hB10.own.below hbWW) hB10.blk.lt hown4 hg4 hb4
          have hp5 := hp4.far (p := ⟨gv, 0, none⟩) (show gv + 1 ≠ gv by omega) (.slice A4 (j + 1 + 1 + 1) c4')
          obtain ⟨AhBZ, chBZ, hBZ⟩ := hB10.appF hap
          have honhBZ := hap.on
          have HONhBZ := Lib.hid honhBZ
          have HIDhBZ := Lib.hid hBZ
          clear hap hBZ honhBZ
          refine nextS hp4 ?_
          obtain ⟨z0, z1, zf0, zf1⟩ := cell2 hv4
          go_wp2_with fail
          refine next_hold (.pointer (some ⟨gv, 0, none⟩)) rfl (hold_nil _ rfl ⟨gv, 0, none⟩ rfl) ?_
          go_wp2_with fail
          refine nextS hp5 ?_
          refine ends_normal ?_
          obtain ⟨WhBZ, hWhBZ⟩ : ∃ WN, WN = w4'.setCell ⟨gv, 0, none⟩ (.slice A4 (j + 1 + 1 + 1) c4') := ⟨_, rfl⟩
          rw [← hWhBZ] at HIDhBZ HONhBZ ⊢
          have hBZ := HIDhBZ.out
          clear HIDhBZ hWhBZ hp5 hp4 hv4 hbWW z0 z1 zf0 zf1 hown4 hg4 hb4 y0 y1 yf0 yf1
          have zq := cell1 hBZ.bp
          go_wp2_with fail
          go_ret2
          exact ⟨hBZ.bel, .inl ⟨by rw [HRE.out], gv, rfl, by rw [HRE.out, HOPS.out]; exact hBZ.saver, hlo⟩⟩
        · go_wp2_with fail
          refine nextS (hB10.bp.drew.alloc _) ?_
          obtain ⟨y0, y1, yf0, yf1⟩ := cell2 (hB10.blk.alloc (.cells #[.func (.func 38) #[] #[.pointer (some ⟨gs, 0, none⟩)]] 87))
          go_wp2_with fail
          refine nextS (hB10.bp.drew.alloc _) ?_
          go_wp2_with (at_builtin; refine wpList_app _ rfl _ _ 84 84 rfl w.heap.size 87 i0 _ 1 8 Try.underlying84 hi0 hz0 hz1 hz2 rfl A10 (j + 1 + 1) c10 _ rfl (hB10.own.drew.alloc _) _ 1 _ rfl (Src.new Try.underlying84 rfl (by simp [Value.oneCell'])) (by simp only [maxLen]; omega) (by omega) (Nat.le_trans hB10.bel.size (by simp)) ?_; intro A4 c4' w4' hown4 hg4 hb4; refine Classical.byContradiction fun hstop => ?_)
          refine absurd ?_ hstop
          clear hstop
          have hp4 := (hB10.bp.drew.alloc (.cells #[.func (.func 38) #[] #[.pointer (some ⟨gs, 0, none⟩)]] 87)).grown hg4 (fun hk => (hB10.own.drew.alloc _).blk_ne (hB10.bp.drew.alloc (.cells #[.func (.func 38) #[] #[.pointer (some ⟨gs, 0, none⟩)]] 87)) (by decide) _ hk rfl)
          have hv4 := (hB10.blk.drew.alloc (.cells #[.func (.func 38) #[] #[.pointer (some ⟨gs, 0, none⟩)]] 87)).grown hg4 (fun hk => (hB10.own.drew.alloc _).blk_ne (hB10.blk.drew.alloc (.cells #[.func (.func 38) #[] #[.pointer (some ⟨gs, 0, none⟩)]] 87)) (by decide) _ hk rfl)
          have hbWW : Below w10.heap.size w10 (w10.drew.alloc (.cells #[.func (.func 38) #[] #[.pointer (some ⟨gs, 0, none⟩)]] 87)) := (Below.refl _ w10).drew.alloc (Nat.le_refl _) _
          have hap := AppPost.of hbWW (hB10.blk.belowAll hbWW) (hB10.own.below hbWW) hB10.blk.lt hown4 hg4 hb4
          have hp5 := hp4.far (p := ⟨gv, 0, none⟩) (show gv + 1 ≠ gv by omega) (.slice A4 (j + 1 + 1 + 1) c4')
          obtain ⟨AhBZ, chBZ, hBZ⟩ := hB10.appF hap
          have honhBZ := hap.on
          have HONhBZ := Lib.hid honhBZ
          have HIDhBZ := Lib.hid hBZ
          clear hap hBZ honhBZ
          refine nextS hp4 ?_
          obtain ⟨z0, z1, zf0, zf1⟩ := cell2 hv4
          go_wp2_with fail
          refine next_hold (.pointer (some ⟨gv, 0, none⟩)) rfl (hold_nil _ rfl ⟨gv, 0, none⟩ rfl) ?_
          go_wp2_with fail
          refine nextS hp5 ?_
          refine ends_normal ?_
          obtain ⟨WhBZ, hWhBZ⟩ : ∃ WN, WN = w4'.setCell ⟨gv, 0, none⟩ (.slice A4 (j + 1 + 1 + 1) c4') := ⟨_, rfl⟩
          rw [← hWhBZ] at HIDhBZ HONhBZ ⊢
          have hBZ := HIDhBZ.out
          clear HIDhBZ hWhBZ hp5 hp4 hv4 hbWW z0 z1 zf0 zf1 hown4 hg4 hb4 y0 y1 yf0 yf1
          have zq := cell1 hBZ.bp
          go_wp2_with fail
          go_ret2
          exact ⟨hBZ.bel, .inl ⟨by rw [HRE.out], gv, rfl, by rw [HRE.out, HOPS.out]; exact hBZ.saver, hlo⟩⟩
end Go.Proofs.Ytbljacafmkdlmaa
