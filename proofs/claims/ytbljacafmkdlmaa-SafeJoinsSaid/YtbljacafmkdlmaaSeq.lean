/- A region that draws its order, walked in one fixed order: what yields in whatever world is taken first, all else comes up alone. Over any program. Condition: the order passes a closed check. -/
import Derived.Test.YtbljacafmkdlmaaStr
import Derived.OrdersHeld
namespace Go.Proofs.Ytbljacafmkdlmaa
open Go.RowKit

/-- All blocks that were there are as they were. -/
def Keep (w u : World) : Prop := ∀ k, k < w.heap.size → u.heap[k]? = w.heap[k]?
theorem Keep.refl (w : World) : Keep w w := fun _ _ => rfl
theorem Keep.size {w u : World} (h : Keep w u) : w.heap.size ≤ u.heap.size := by
  rcases Nat.lt_or_ge u.heap.size w.heap.size with hlt | hge
  · have h1 := h u.heap.size hlt
    rw [Array.getElem?_eq_none (Nat.le_refl _), Array.getElem?_eq_getElem hlt] at h1
    cases h1
  · exact hge
theorem Keep.trans {w u v : World} (h : Keep w u) (k : Keep u v) : Keep w v := fun i hi => (k i (Nat.lt_of_lt_of_le hi h.size)).trans (h i hi)
theorem Keep.below {w u : World} (h : Below w.heap.size w u) : Keep w u := h.block
theorem Keep.alloc (w : World) (o : Obj) : Keep w (w.alloc o) := fun k hk => Below.heap_alloc w o k hk
theorem Keep.drewN (w : World) (n : Nat) : Keep w (w.drewN n) := fun _ _ => rfl

/-- Where something is read (rd), all blocks that were there are as they were. -/
def Kept (rd : Bool) (w u : World) : Prop := rd = true → Keep w u
theorem Kept.refl (rd : Bool) (w : World) : Kept rd w w := fun _ => Keep.refl w
theorem Kept.trans {rd : Bool} {w u v : World} (h : Kept rd w u) (k : Kept rd u v) : Kept rd w v := fun e => (h e).trans (k e)

/-- s leaves the world as it is, wherever it comes to an end, and comes to the same end in every world that keeps this one (if s reads: rd; else in every world). -/
def OKS {α : Type} (rd : Bool) (P : Program) (s : Sem α) : Prop := ∀ w a w', s.run P w = .ok a w' → w' = w ∧ ∀ u, Kept rd w u → s.run P u = .ok a u

section
variable {rd : Bool} {P : Program} {α β : Type}
theorem OKS.pure (a : α) : OKS rd P (Pure.pure a : Sem α) := fun w b w' h => by
  simp only [Sem.run_pure, Result.ok.injEq] at h
  obtain ⟨rfl, rfl⟩ := h
  exact ⟨rfl, fun u _ => rfl⟩
theorem OKS.bind {s : Sem α} {f : α → Sem β} (hs : OKS rd P s) (hf : ∀ a, OKS rd P (f a)) : OKS rd P (s >>= f) := fun w b w' h => by
  rw [Sem.run_bind] at h
  cases hr : s.run P w with
  | halt x w1 => rw [hr] at h; cases h
  | ok a w1 =>
    rw [hr] at h
    obtain ⟨rfl, hu⟩ := hs w a w1 hr
    obtain ⟨rfl, hv⟩ := hf a _ b w' h
    exact ⟨rfl, fun u hk => by rw [Sem.run_bind, hu u hk]; exact hv u hk⟩
theorem OKS.never {s : Sem α} (h : ∀ w, ∃ x w', s.run P w = .halt x w') : OKS rd P s := fun w a w' hr => by
  obtain ⟨x, w1, e⟩ := h w
  rw [e] at hr
  cases hr
theorem OKS.halt (x : Halt) : OKS rd P (Sem.halt x : Sem α) := OKS.never fun w => ⟨x, w, rfl⟩
theorem OKS.stuck (m : String) : OKS rd P (Go.stuck m : Sem α) := OKS.halt _
theorem OKS.unsupported (m : Unsupported) : OKS rd P (Go.unsupported m : Sem α) := OKS.halt _
theorem OKS.goPanic (v : Value) : OKS rd P (Go.goPanic v : Sem α) := OKS.halt _
theorem OKS.program : OKS rd P Go.program := fun w a w' h => by
  simp only [run_program, Result.ok.injEq] at h
  obtain ⟨rfl, rfl⟩ := h
  exact ⟨rfl, fun u _ => rfl⟩
theorem OKS.underlying (t : TypeId) : OKS rd P (Go.underlying t) := by
  unfold Go.underlying
  refine OKS.bind OKS.program fun p => ?_
  split
  · exact OKS.pure _
  · exact OKS.stuck _
theorem OKS.typeInfo (t : TypeId) : OKS rd P (Go.typeInfo t) := by
  unfold Go.typeInfo
  refine OKS.bind OKS.program fun p => ?_
  split
  · exact OKS.pure _
  · exact OKS.stuck _
theorem OKS.sizeOf (t : TypeId) : OKS rd P (Go.sizeOf t) := by
  unfold Go.sizeOf
  exact OKS.bind (OKS.typeInfo t) fun _ => OKS.pure _
theorem OKS.asIntOf (v : Value) : OKS rd P (Go.asIntOf v) := by
  unfold Go.asIntOf
  split
  · exact OKS.pure _
  · exact OKS.unsupported _
  · exact OKS.stuck _
theorem OKS.asBool (v : Value) : OKS rd P (Go.asBool v) := by
  unfold Go.asBool
  split
  · exact OKS.pure _
  · exact OKS.stuck _
theorem OKS.error (m : String) : OKS rd P (Go.runtimePanic (.error m) : Sem α) := by
  unfold Go.runtimePanic
  exact OKS.bind OKS.program fun p => OKS.goPanic _
theorem OKS.boundsPanic (k : IntKind) (x y : Int) (c : BoundsCode) : OKS rd P (Go.boundsPanic k x y c : Sem α) := by
  refine OKS.never fun w => ?_
  obtain ⟨s, w', h⟩ := run_boundsPanic (α := α) (P := P) (w := w) k x y c
  exact ⟨_, _, h⟩
theorem OKS.sliceBound (v : Value) (y : Nat) (c : BoundsCode) : OKS rd P (Instr.sliceBound v y c) := by
  unfold Instr.sliceBound
  refine OKS.bind (OKS.asIntOf v) fun ki => ?_
  obtain ⟨k, i⟩ := ki
  simp only []
  split
  · exact OKS.pure _
  · exact OKS.boundsPanic _ _ _ _
theorem OKS.int2 (op : BinOp) (t : TypeId) (k k' : IntKind) (x y : Int) : OKS rd P (binOp op t (.int k x) (.int k' y)) := by
  have hs : ∀ o : BinOp, OKS rd P (Op.shift o k x k' y) := fun o => by
    unfold Op.shift
    split
    · exact OKS.error _
    · cases o <;> first | exact OKS.pure _ | exact OKS.stuck _
  have hd : ∀ o : BinOp, OKS rd P (Op.intDiv o k x y) := fun o => by
    unfold Op.intDiv
    split
    · exact OKS.error _
    · cases o <;> first | exact OKS.pure _ | exact OKS.stuck _
  have ha : ∀ o : BinOp, OKS rd P (Op.intArith o k x y) := fun o => by cases o <;> first | exact OKS.pure _ | exact OKS.stuck _
  have hb : ∀ o : BinOp, OKS rd P (Op.intBits o k x y) := fun o => by cases o <;> first | exact OKS.pure _ | exact OKS.stuck _
  have hc : ∀ o : BinOp, OKS rd P (Op.intCmp o x y) := fun o => by cases o <;> first | exact OKS.pure _ | exact OKS.stuck _
  cases op <;> simp only [binOp] <;> first
    | exact hs _
    | (split
       · exact OKS.stuck _
       · first | exact ha _ | exact hd _ | exact hb _ | exact hc _)
end

theorem OKS.sureAddr {rd : Bool} {P : Program} (v : Value) : OKS rd P (Instr.sureAddr v) := by
  unfold Instr.sureAddr
  split
  · exact OKS.pure _
  · exact OKS.stuck _
theorem OKS.nilDeref {rd : Bool} {P : Program} {α : Type} : OKS rd P (Go.runtimePanic .nilDeref : Sem α) := by
  unfold Go.runtimePanic
  exact OKS.bind OKS.program fun p => OKS.goPanic _
theorem OKS.asAddr {rd : Bool} {P : Program} (v : Value) : OKS rd P (Go.asAddr v) := by
  unfold Go.asAddr
  split
  · exact OKS.pure _
  · exact OKS.nilDeref
  · exact OKS.stuck _
theorem OKS.sliceBounds {rd : Bool} {P : Program} (b : Bool) (n c : Nat) (lo hi mx : Option Value) : OKS rd P (Instr.sliceBounds b n c lo hi mx) := by
  unfold Instr.sliceBounds
  simp only []
  repeat' (first | exact OKS.pure _ | exact OKS.stuck _ | exact OKS.unsupported _ | exact OKS.boundsPanic _ _ _ _ | exact OKS.sliceBound _ _ _ | exact OKS.asAddr _ | exact OKS.sureAddr _ | exact OKS.underlying _ | exact OKS.sizeOf _ | exact OKS.asIntOf _ | refine OKS.bind ?_ fun _ => ?_ | split)
theorem OKS.slice {rd : Bool} {P : Program} (t : TypeId) (x : Value) (lo hi mx : Option Value) : OKS rd P (Instr.slice t x lo hi mx) := by
  unfold Instr.slice
  simp only []
  repeat' (first | exact OKS.pure _ | exact OKS.stuck _ | exact OKS.unsupported _ | exact OKS.boundsPanic _ _ _ _ | exact OKS.sliceBound _ _ _ | exact OKS.asAddr _ | exact OKS.sureAddr _ | exact OKS.underlying _ | exact OKS.sizeOf _ | exact OKS.asIntOf _ | exact OKS.sliceBounds _ _ _ _ _ _ | refine OKS.bind ?_ fun _ => ?_ | split)
theorem OKS.sliceAt {rd : Bool} {P : Program} (t : TypeId) (x : Value) (lo hi mx : Option Value) : OKS rd P (Instr.sliceAt t x lo hi mx) := by
  unfold Instr.sliceAt
  simp only []
  repeat' (first | exact OKS.pure _ | exact OKS.stuck _ | exact OKS.unsupported _ | exact OKS.boundsPanic _ _ _ _ | exact OKS.sliceBound _ _ _ | exact OKS.asAddr _ | exact OKS.sureAddr _ | exact OKS.underlying _ | exact OKS.sizeOf _ | exact OKS.asIntOf _ | exact OKS.sliceBounds _ _ _ _ _ _ | exact OKS.slice _ _ _ _ _ | refine OKS.bind ?_ fun _ => ?_ | split)
theorem OKS.indexAt {rd : Bool} {P : Program} (t : TypeId) (x ix : Value) : OKS rd P (Instr.indexAt t x ix) := by
  unfold Instr.indexAt
  simp only []
  repeat' (first | exact OKS.pure _ | exact OKS.stuck _ | exact OKS.unsupported _ | exact OKS.boundsPanic _ _ _ _ | exact OKS.sliceBound _ _ _ | exact OKS.asAddr _ | exact OKS.sureAddr _ | exact OKS.underlying _ | exact OKS.sizeOf _ | exact OKS.asIntOf _ | exact OKS.sliceBounds _ _ _ _ _ _ | exact OKS.slice _ _ _ _ _ | refine OKS.bind ?_ fun _ => ?_ | split)

/-- A field that is not of size 0. -/
def okField (P : Program) (t : TypeId) (i : Nat) : Bool := match P.underlying t with
  | some (.struct fs) => (match fs[i]? with
    | some f => (match P.info? f.type with
      | some inf => inf.size != 0
      | none => false)
    | none => false)
  | _ => false
theorem OKS.fieldAt {rd : Bool} {P : Program} (t : TypeId) (x : Value) (i : Nat) (h : okField P t i = true) : OKS rd P (Instr.fieldAt t x i) := by
  unfold okField at h
  split at h
  · rename_i fs hu
    split at h
    · rename_i f hf
      split at h
      · rename_i inf hi
        have hz : inf.size ≠ 0 := by simpa using h
        have key : ∀ w, (Instr.fieldAt t x i).run P w = (do let a ← Instr.sureAddr x; Pure.pure (Value.pointer (some (a.add f.offset))) : Sem Value).run P w := by
          intro w
          unfold Instr.fieldAt
          rw [Sem.run_bind, run_underlying hu, Result.andThen_ok]
          simp only [hf]
          rw [Sem.run_bind, Sem.run_bind]
          congr 1
          funext a w1
          rw [Sem.run_bind]
          simp [fieldPlace, Go.sizeOf, Go.typeInfo, Sem.run_bind, hi, hz]
        have h0 : OKS rd P (do let a ← Instr.sureAddr x; Pure.pure (Value.pointer (some (a.add f.offset))) : Sem Value) := OKS.bind (OKS.sureAddr _) fun _ => OKS.pure _
        intro w a w' hr
        rw [key] at hr
        obtain ⟨h1, h2⟩ := h0 w a w' hr
        exact ⟨h1, fun u hu => by rw [key]; exact h2 u hu⟩
      · cases h
    · cases h
  · cases h

/-! ## reading -/
theorem seen_keep {P : Program} {w u : World} (hk : Keep w u) {at_ k : Addr} {t : TypeId} {b : Bool} {r : Array Value × TypeId × (Nat × Nat) × Nat × Value × List (Nat × Nat × List UInt8)} (h : w.seen P at_ t k b = .ok r) : u.seen P at_ t k b = .ok r := by
  by_cases hlt : at_.block < w.heap.size
  · have e : u.seen P at_ t k b = w.seen P at_ t k b := by
      unfold World.seen
      rw [hk _ hlt]
    rw [e]
    exact h
  · exfalso
    have hn : w.heap[at_.block]? = none := Array.getElem?_eq_none (by omega)
    unfold World.seen at h
    rw [hn] at h
    simp only [bind, Except.bind] at h
    repeat' (first | (cases h; done) | split at h)
theorem OKS.load {P : Program} (a : Addr) (m : Mode) : OKS true P (Go.load a m) := fun w v w' h => by
  rw [run_load] at h
  cases hc : w.cell? a with
  | some x =>
    rw [hc] at h
    simp only [Result.ok.injEq] at h
    obtain ⟨rfl, rfl⟩ := h
    exact ⟨rfl, fun u hk => by rw [run_load, World.cell?_of_block (hk rfl a.block (World.block_lt_of_cell? _ a hc)), hc]⟩
  | none =>
    rw [hc] at h
    simp only [] at h
    cases hf : w.farLoad P a (m == .atomic) with
    | error e => rw [hf] at h; cases h
    | ok r =>
      rw [hf] at h
      simp only [Result.ok.injEq] at h
      obtain ⟨rfl, rfl⟩ := h
      refine ⟨rfl, fun u hk => ?_⟩
      have hlt : a.block < w.heap.size := by
        rcases Nat.lt_or_ge a.block w.heap.size with h' | h'
        · exact h'
        · unfold World.farLoad at hf
          rw [Array.getElem?_eq_none h'] at hf
          cases hf
      have hb := hk rfl a.block hlt
      rw [run_load, World.cell?_of_block hb, hc]
      simp only []
      have hfu : u.farLoad P a (m == .atomic) = .ok r := by
        unfold World.farLoad at hf ⊢
        rw [hb]
        split at hf
        · rename_i at_ t hv
          cases hl : w.viewLoad P at_ t a (m == .atomic) with
          | error e => rw [hl] at hf; cases hf
          | ok r2 =>
            rw [hl] at hf
            have hlu : u.viewLoad P at_ t a (m == .atomic) = .ok r2 := by
              unfold World.viewLoad at hl ⊢
              cases hs : w.seen P at_ t a (m == .atomic) with
              | error e => rw [hs] at hl; cases hl
              | ok r3 => rw [hs] at hl; rw [seen_keep (hk rfl) hs]; exact hl
            rw [hlu]
            exact hf
        · cases hf
      rw [hfu]
theorem OKS.loadCellsFrom {P : Program} (a : Addr) : ∀ (n i : Nat) (acc : Array Value), OKS true P (Go.loadCellsFrom a i n acc)
  | 0, _, _ => OKS.pure _
  | n + 1, i, _ => OKS.bind (OKS.load _ _) fun _ => OKS.loadCellsFrom a n (i + 1) _
theorem OKS.loadCells {P : Program} (a : Addr) (n : Nat) : OKS true P (Go.loadCells a n) := OKS.loadCellsFrom a n 0 _
theorem OKS.loadVar {P : Program} (t : TypeId) (a : Addr) : OKS true P (Go.loadVar t a) := by
  unfold Go.loadVar Go.isAgg
  repeat' (first | exact OKS.pure _ | exact OKS.underlying _ | exact OKS.sizeOf _ | exact OKS.load _ _ | exact OKS.loadCells _ _ | refine OKS.bind ?_ fun _ => ?_ | split)
theorem OKS.loadAt {P : Program} (t : TypeId) (x : Value) : OKS true P (Instr.loadAt t x) := OKS.bind (OKS.sureAddr _) fun _ => OKS.loadVar _ _
theorem OKS.forIn {P : Program} {β : Type} (f : Value → β → Sem (ForInStep β)) (hf : ∀ c s, OKS true P (f c s)) : ∀ (l : List Value) (s : β), OKS true P (ForIn.forIn l s f)
  | [], s => by rw [List.forIn_nil]; exact OKS.pure _
  | c :: l, s => by
    rw [List.forIn_cons]
    refine OKS.bind (hf c s) fun x => ?_
    cases x with
    | done b => exact OKS.pure _
    | yield b => exact OKS.forIn f hf l b
theorem OKS.bytesToString {P : Program} (x : Value) : OKS true P (Conv.bytesToString x) := by
  unfold Conv.bytesToString
  split
  · exact OKS.pure _
  · refine OKS.bind (OKS.loadCells _ _) fun cs => ?_
    refine OKS.bind ?_ fun _ => OKS.pure _
    rw [← Array.forIn_toList]
    refine OKS.forIn _ (fun c s => ?_) _ _
    split
    · exact OKS.pure _
    · exact OKS.stuck _
  · exact OKS.stuck _

theorem OKS.str2 {rd : Bool} {P : Program} (op : BinOp) (t : TypeId) (x y : ByteArray) : OKS rd P (binOp op t (.string x) (.string y)) := by
  have hs : ∀ o : BinOp, OKS rd P (Op.stringOp o x y) := fun o => by
    unfold Op.stringOp
    simp only []
    split <;> first
      | exact OKS.pure _
      | exact OKS.stuck _
      | (split
         · exact OKS.unsupported _
         · exact OKS.pure _)
  cases op <;> (simp only [binOp]; exact hs _)
theorem OKS.bool2 {rd : Bool} {P : Program} (op : BinOp) (t : TypeId) (x y : Bool) : OKS rd P (binOp op t (.bool x) (.bool y)) := by
  have he : OKS rd P (Op.equal t (.bool x) (.bool y)) := by
    unfold Op.equal
    rw [show Op.maxDepth = 9999 + 1 from rfl, Op.equalIn]
    refine OKS.bind (OKS.underlying t) fun d => ?_
    cases d <;> first | exact OKS.pure _ | exact OKS.stuck _
  cases op <;> simp only [binOp] <;> first
    | exact OKS.stuck _
    | exact OKS.bind he fun _ => OKS.pure _

/-- The kinds of operations that are taken first. -/
inductive Kd where
  | copy | int2 | str2 (t : TypeId) | bool2 | conv (t : TypeId) | text (s e d : TypeId) | len (t : TypeId) | cut | addr | load
  deriving DecidableEq

def Kd.fits (rd : Bool) (P : Program) (o : Oper) : Kd → Bool
  | .copy => match o.op with
    | .move _ | .assign _ | .pick .. | .extract .. | .unOp .. => true
    | _ => false
  | .int2 => match o.op with
    | .binOp .. => true
    | _ => false
  | .str2 t => match o.op with
    | .binOp .. => match P.underlying t with | some .string => true | _ => false
    | _ => false
  | .bool2 => match o.op with
    | .binOp .. => true
    | _ => false
  | .conv t => match o.op with
    | .convert _ t' _ => t == t' && (match P.underlying t with | some (.int _) => true | _ => false)
    | _ => false
  | .text s e d => match o.op with
    | .convert s' d' _ => rd && s == s' && d == d' && (match P.underlying s with | some (.slice e') => e == e' | _ => false) && (match P.underlying e with | some (.int .u8) => true | _ => false) && (match P.underlying d with | some .string => true | _ => false)
    | _ => false
  | .len t => match o.op with
    | .call { callee := .builtin .len, argTypes, .. } => argTypes[0]? == some t && (match P.underlying t with | some .string | some (.slice _) => true | _ => false)
    | _ => false
  | .cut => match o.op with
    | .slice .. => true
    | _ => false
  | .addr => match o.op with
    | .indexAddr .. => true
    | .fieldAddr t _ i => okField P t i
    | _ => false
  | .load => match o.op with
    | .load .. => rd
    | _ => false

/-- An operation that ends well just at an int; at a string; at a bool; at a slice. -/
def ghost (o : Oper) (op : Op) : Oper := { dst := none, op := op, type := 0, pos := o.pos, after := #[], guard := o.guard }
def gInt (x : Operand) : Op := .binOp .shr 0 x (.const (.int .i64 0)) 0
def gStr (t : TypeId) (x : Operand) : Op := .slice t x none none none
def gBool (x : Operand) : Op := .unOp .not 0 x
def ghosts (o : Oper) : Kd → List Oper
  | .int2 => match o.op with
    | .binOp _ _ x y _ => [ghost o (gInt x), ghost o (gInt y)]
    | _ => []
  | .str2 t => match o.op with
    | .binOp _ _ x y _ => [ghost o (gStr t x), ghost o (gStr t y)]
    | _ => []
  | .bool2 => match o.op with
    | .binOp _ _ x y _ => [ghost o (gBool x), ghost o (gBool y)]
    | _ => []
  | .conv _ => match o.op with
    | .convert _ _ x => [ghost o (gInt x)]
    | _ => []
  | _ => []

/-- The order: number i taken first (its kind); alone; one of two that may come up. -/
inductive Plan where
  | fin
  | take (i : Nat) (k : Kd) (p : Plan)
  | alone (i : Nat) (p : Plan)
  | fork (i : Nat) (p : Plan) (j : Nat) (q : Plan)

def opAt (ops : Array Oper) (i : Nat) : List Oper := match ops[i]? with
  | some o => [o]
  | none => []
/-- The operations up to the next one that comes up alone, with it. -/
def pre (ops : Array Oper) : Plan → List Oper
  | .fin => []
  | .take i k p => (match ops[i]? with
    | some o => ghosts o k ++ o :: pre ops p
    | none => [])
  | .alone i _ => opAt ops i
  | .fork .. => []

def Plan.long : Plan → Nat
  | .fin => 0
  | .take _ _ p => p.long + 1
  | .alone _ p => p.long + 1
  | .fork _ p _ q => max p.long q.long + 1

def planOK (rd : Bool) (P : Program) (ops : Array Oper) : Plan → Array Bool → Bool
  | .fin, listed => (Region.ready .any ops listed) == []
  | .take i k p, listed => (match ops[i]? with
    | some o => k.fits rd P o && Region.free .any ops listed i && (Region.ready .any ops listed).contains i
    | none => false) && planOK rd P ops p (listed.setIfInBounds i true)
  | .alone i p, listed => (Region.ready .any ops listed) == [i] && planOK rd P ops p (listed.setIfInBounds i true)
  | .fork i p j q, listed => (Region.ready .any ops listed) == [i, j] && planOK rd P ops p (listed.setIfInBounds i true) && planOK rd P ops q (listed.setIfInBounds j true)

/-- Q, but nothing is asked of another way out than the region's end. -/
def Ends (Q : Exit → Act → World → Prop) : Exit → Act → World → Prop
  | .normal, a, w => Q .normal a w
  | _, _, _ => False
theorem Ends.imp {Q : Exit → Act → World → Prop} : ∀ (e : Exit) (a : Act) (w : World), Ends Q e a w → Q e a w := fun e a w h => by
  cases e <;> first | exact h | exact (h : False).elim

/-- What is asked behind a plan's first piece, that began in w0: what was there then is as it was. -/
def nxt (rd : Bool) (P : Program) (ops : Array Oper) (Q : Exit → Act → World → Prop) (w0 : World) : Plan → Act → World → Prop
  | .fin, a, w => Q .normal a w
  | .take _ _ p, a, w => nxt rd P ops Q w0 p a w
  | .alone _ p, a, w => Kept rd w0 w ∧ wpList P ops (Ends fun _ a' w' => nxt rd P ops Q w p a' w') (pre ops p) a w
  | .fork i p j q, a, w =>
    wpList P ops (Ends fun _ a1 w1 => Kept rd w w1 ∧ wpList P ops (Ends fun _ a' w' => nxt rd P ops Q w1 p a' w') (pre ops p) a1 w1) (opAt ops i) a w ∧
    wpList P ops (Ends fun _ a1 w1 => Kept rd w w1 ∧ wpList P ops (Ends fun _ a' w' => nxt rd P ops Q w1 q a' w') (pre ops q) a1 w1) (opAt ops j) a w

section
variable {rd : Bool} {P : Program} {ops : Array Oper} {Q : Exit → Act → World → Prop}

theorem next_keep {K : Act → World → Prop} {a : Act} {w0 w : World} (hk : Keep w0 w) (h : K a w) : Ends (fun _ a' w' => Kept rd w0 w' ∧ K a' w') .normal a w := ⟨fun _ => hk, h⟩
theorem next_any {K : Act → World → Prop} {a : Act} {w0 w : World} (h : K a w) : Ends (fun _ a' w' => Kept false w0 w' ∧ K a' w') .normal a w := ⟨(fun e => by cases e), h⟩
theorem next_fork {K K' : Act → World → Prop} {a : Act} {w : World} (h : K a w) (h' : K' a w) : Ends (fun _ a' w' => K a' w' ∧ K' a' w') .normal a w := ⟨h, h'⟩
theorem ends_normal {a : Act} {w : World} (h : Q .normal a w) : Ends Q .normal a w := h

/-- What the walk gives at an operation. -/
theorem step_of {o : Oper} {l : List Oper} {a : Act} {w : World} (h : wpList P ops (Ends Q) (o :: l) a w) :
    if Region.wanted o (yielded ops a.tmps) = true then o.wp P a w (wpList P ops (Ends Q) l) (Ends Q) else wpList P ops (Ends Q) l (a.put o.dst undef) w := by
  unfold wpList at h
  split at h
  · rename_i hw
    rw [if_pos hw]
    rcases h with h | ⟨_, _, _, h⟩
    · exact h
    · exact (h : False).elim
  · rename_i hw
    rw [if_neg hw]
    exact h

/-- An operation whose run, where it ends well, yields a value in every world that keeps this one. -/
theorem yields_of {o : Oper} {l : List Oper} {a : Act} {w : World} (s : Sem Value) (he : execOp a.eval o = (do Pure.pure (.value (← s)))) (hs : OKS rd P s)
    (h : wpList P ops (Ends Q) (o :: l) a w) : ∃ v, YieldsIf P ops (Kept rd w) o v a ∧ wpList P ops (Ends Q) l (a.put o.dst v) w := by
  have h1 := step_of h
  by_cases hw : Region.wanted o (yielded ops a.tmps) = true
  · rw [if_pos hw] at h1
    unfold Oper.wp at h1
    rw [he, Sem.run_bind] at h1
    cases hr : s.run P w with
    | halt x w1 =>
      rw [hr] at h1
      simp only [Result.andThen_halt] at h1
      cases x <;> exact (h1 : False).elim
    | ok v w1 =>
      rw [hr] at h1
      obtain ⟨rfl, hu⟩ := hs w v w1 hr
      exact ⟨v, .inl ⟨hw, fun u hk => by rw [he, Sem.run_bind, hu u hk]; rfl⟩, h1⟩
  · rw [if_neg hw] at h1
    exact ⟨undef, .inr ⟨by simpa using hw, rfl⟩, h1⟩

/-- A ghost that was walked: its run ended well, in this very world. -/
theorem ghost_on {o : Oper} {op : Op} {l : List Oper} {a : Act} {w : World} (s : Sem Value) (he : execOp a.eval (ghost o op) = (do Pure.pure (.value (← s)))) (hs : OKS rd P s) (hw : Region.wanted o (yielded ops a.tmps) = true) (h : wpList P ops (Ends Q) (ghost o op :: l) a w) :
    (∃ v, s.run P w = .ok v w) ∧ wpList P ops (Ends Q) l a w := by
  have h1 := step_of h
  rw [if_pos (show Region.wanted (ghost o op) (yielded ops a.tmps) = true from hw)] at h1
  unfold Oper.wp at h1
  rw [he, Sem.run_bind] at h1
  cases hr : s.run P w with
  | halt x w1 =>
    rw [hr] at h1
    simp only [Result.andThen_halt] at h1
    cases x <;> exact (h1 : False).elim
  | ok v w1 =>
    rw [hr] at h1
    obtain ⟨rfl, _⟩ := hs w v w1 hr
    exact ⟨⟨v, rfl⟩, h1⟩

/-- A ghost that was passed over. -/
theorem ghost_off {o : Oper} {op : Op} {l : List Oper} {a : Act} {w : World} (hw : ¬ Region.wanted o (yielded ops a.tmps) = true) (h : wpList P ops (Ends Q) (ghost o op :: l) a w) : wpList P ops (Ends Q) l a w := by
  have h1 := step_of h
  rw [if_neg (show ¬ Region.wanted (ghost o op) (yielded ops a.tmps) = true from hw)] at h1
  exact h1
theorem wanted_off {o : Oper} {l : List Oper} {a : Act} {w : World} (hw : ¬ Region.wanted o (yielded ops a.tmps) = true) (h : wpList P ops (Ends Q) (o :: l) a w) : ∃ v, YieldsIf P ops (Kept rd w) o v a ∧ wpList P ops (Ends Q) l (a.put o.dst v) w := by
  have h3 := step_of h
  rw [if_neg hw] at h3
  exact ⟨undef, .inr ⟨by simpa using hw, rfl⟩, h3⟩

theorem shr_int {v r : Value} {w : World} (h : (do eqGuard .shr 0 (.const v) (.const (.int .i64 0)) v (.int .i64 0); binOp .shr 0 v (.int .i64 0) : Sem Value).run P w = .ok r w) : ∃ k n, v = .int k n := by
  have hg : (eqGuard .shr 0 (.const v) (.const (.int .i64 0)) v (.int .i64 0)).run P w = .ok () w := rfl
  rw [Sem.run_bind, hg, Result.andThen_ok] at h
  cases v
  case int k n => exact ⟨k, n, rfl⟩
  all_goals
    exfalso
    simp only [binOp] at h
    cases h
theorem gInt_on {o : Oper} {x : Operand} {l : List Oper} {a : Act} {w : World} (hw : Region.wanted o (yielded ops a.tmps) = true) (h : wpList P ops (Ends Q) (ghost o (gInt x) :: l) a w) :
    (∃ k n, a.eval x = .int k n) ∧ wpList P ops (Ends Q) l a w := by
  have hs : OKS true P (do eqGuard .shr 0 (.const (a.eval x)) (.const (.int .i64 0)) (a.eval x) (.int .i64 0); binOp .shr 0 (a.eval x) (.int .i64 0) : Sem Value) := by
    refine OKS.bind (OKS.pure _) fun _ => ?_
    generalize a.eval x = v
    cases v
    case int k n => exact OKS.int2 _ _ _ _ _ _
    all_goals first | exact OKS.stuck _ | exact OKS.unsupported _
  obtain ⟨⟨v, hr⟩, h1⟩ := ghost_on _ rfl hs hw h
  exact ⟨shr_int hr, h1⟩
theorem gBool_on {o : Oper} {x : Operand} {l : List Oper} {a : Act} {w : World} (hw : Region.wanted o (yielded ops a.tmps) = true) (h : wpList P ops (Ends Q) (ghost o (gBool x) :: l) a w) :
    (∃ b, a.eval x = .bool b) ∧ wpList P ops (Ends Q) l a w := by
  have hs : OKS true P (Op.unary .not (a.eval x)) := by
    unfold Op.unary
    generalize a.eval x = v
    cases v <;> first | exact OKS.pure _ | exact OKS.stuck _
  obtain ⟨⟨v, hr⟩, h1⟩ := ghost_on _ rfl hs hw h
  refine ⟨?_, h1⟩
  generalize a.eval x = z at hr
  cases z <;> first | exact ⟨_, rfl⟩ | (cases hr; done)
theorem gStr_on {o : Oper} {t : TypeId} {x : Operand} {l : List Oper} {a : Act} {w : World} (ht : P.underlying t = some .string) (hw : Region.wanted o (yielded ops a.tmps) = true) (h : wpList P ops (Ends Q) (ghost o (gStr t x) :: l) a w) :
    (∃ s, a.eval x = .string s) ∧ wpList P ops (Ends Q) l a w := by
  obtain ⟨⟨v, hr⟩, h1⟩ := ghost_on (Instr.sliceAt t (a.eval x) none none none) rfl (OKS.sliceAt (rd := true) _ _ _ _ _) hw h
  refine ⟨?_, h1⟩
  unfold Instr.sliceAt at hr
  rw [Sem.run_bind, run_underlying ht, Result.andThen_ok] at hr
  simp only [] at hr
  unfold Instr.slice at hr
  rw [Sem.run_bind, run_underlying ht, Result.andThen_ok] at hr
  generalize a.eval x = z at hr
  cases z <;> first | exact ⟨_, rfl⟩ | (cases hr; done)

theorem eqGuard_ok {b : BinOp} {t : TypeId} {x y : Operand} {u v : Value} (hu : (match u with | .nilIface | .agg _ => false | _ => true) = true) : OKS rd P (eqGuard b t x y u v) := by
  unfold eqGuard
  cases b <;> first | exact OKS.pure _ | (cases u <;> first | (cases hu; done) | exact OKS.pure _)

def textIn (e : TypeId) : Value → Sem Value
  | .int _ n => Conv.intToString n
  | .string z => Pure.pure (.string z)
  | x => do
    match ← Go.underlying e with
    | .int .u8 => Conv.bytesToString x
    | .int .i32 => Conv.runesToString x
    | _ => Go.stuck "Convert: a slice of what to string?"

/-- Nothing is asked of another way out. -/
theorem wp_ends {Q' : Exit → Act → World → Prop} {o : Oper} {a : Act} {w : World} {K : Act → World → Prop} (h : o.wp P a w K (Ends Q)) : o.wp P a w K (Ends Q') := by
  unfold Oper.wp at *
  generalize (execOp a.eval o).run P w = r at *
  cases r with
  | ok n w' =>
    cases n <;> simp only [Oper.upon] at h ⊢ <;> first
      | exact h
      | exact Calls.mono h (fun e w'' he => by cases e <;> first | exact he | (obtain ⟨_, _, hf⟩ := he; exact (hf : False).elim))
  | halt x w' => cases x <;> simp only [Oper.upon] at h ⊢ <;> exact h

theorem take_step {o : Oper} {k : Kd} (hk : k.fits rd P o = true) {l : List Oper} {a : Act} {w : World} (h : wpList P ops (Ends Q) (ghosts o k ++ o :: l) a w) :
    ∃ v, YieldsIf P ops (Kept rd w) o v a ∧ wpList P ops (Ends Q) l (a.put o.dst v) w := by
  by_cases hw : Region.wanted o (yielded ops a.tmps) = true
  case neg =>
    obtain ⟨dst, op, type, pos, after, guard⟩ := o
    cases k <;> cases op <;> first
      | exact wanted_off hw h
      | exact wanted_off hw (ghost_off hw h)
      | exact wanted_off hw (ghost_off hw (ghost_off hw h))
  case pos =>
  obtain ⟨dst, op, type, pos, after, guard⟩ := o
  cases k with
  | copy =>
    cases op <;> simp only [Kd.fits, Bool.false_eq_true] at hk
    case move x => exact yields_of (Pure.pure (a.eval x)) rfl (OKS.pure _) h
    case assign x => exact yields_of (Pure.pure (a.eval x)) rfl (OKS.pure _) h
    case pick c x y =>
      refine yields_of (do Pure.pure (if ← Go.asBool (a.eval c) then a.eval x else a.eval y)) ?_ (OKS.bind (OKS.asBool _) fun _ => OKS.pure _) h
      simp only [execOp]
      rw [bind_assoc]
      rfl
    case extract x i =>
      refine yields_of (Instr.extract (a.eval x) i) rfl ?_ h
      unfold Instr.extract
      split
      · split
        · exact OKS.pure _
        · exact OKS.stuck _
      · exact OKS.stuck _
    case unOp u t x =>
      refine yields_of (Op.unary u (a.eval x)) rfl ?_ h
      unfold Op.unary
      split <;> first
        | exact OKS.pure _
        | exact OKS.unsupported _
        | exact OKS.stuck _
        | (unfold Op.intArith; split <;> first | exact OKS.pure _ | exact OKS.stuck _)
        | (unfold Op.intBits; simp only []; split <;> first | exact OKS.pure _ | exact OKS.stuck _)
  | int2 =>
    cases op <;> simp only [Kd.fits, Bool.false_eq_true] at hk
    case binOp b t x y ty =>
      obtain ⟨⟨k1, n1, e1⟩, h1⟩ := gInt_on hw h
      obtain ⟨⟨k2, n2, e2⟩, h2⟩ := gInt_on hw h1
      refine yields_of (do eqGuard b t x y (a.eval x) (a.eval y); binOp b t (a.eval x) (a.eval y)) rfl ?_ h2
      rw [e1, e2]
      exact OKS.bind (eqGuard_ok rfl) fun _ => OKS.int2 _ _ _ _ _ _
  | str2 t0 =>
    cases op <;> simp only [Kd.fits, Bool.false_eq_true] at hk
    case binOp b t x y ty =>
      have ht : P.underlying t0 = some .string := by
        cases hu : P.underlying t0 with
        | none => rw [hu] at hk; cases hk
        | some d =>
          rw [hu] at hk
          cases d <;> first | rfl | (cases hk; done)
      obtain ⟨⟨s1, e1⟩, h1⟩ := gStr_on ht hw h
      obtain ⟨⟨s2, e2⟩, h2⟩ := gStr_on ht hw h1
      refine yields_of (do eqGuard b t x y (a.eval x) (a.eval y); binOp b t (a.eval x) (a.eval y)) rfl ?_ h2
      rw [e1, e2]
      exact OKS.bind (eqGuard_ok rfl) fun _ => OKS.str2 _ _ _ _
  | bool2 =>
    cases op <;> simp only [Kd.fits, Bool.false_eq_true] at hk
    case binOp b t x y ty =>
      obtain ⟨⟨b1, e1⟩, h1⟩ := gBool_on hw h
      obtain ⟨⟨b2, e2⟩, h2⟩ := gBool_on hw h1
      refine yields_of (do eqGuard b t x y (a.eval x) (a.eval y); binOp b t (a.eval x) (a.eval y)) rfl ?_ h2
      rw [e1, e2]
      exact OKS.bind (eqGuard_ok rfl) fun _ => OKS.bool2 _ _ _ _
  | conv t =>
    cases op <;> simp only [Kd.fits, Bool.false_eq_true] at hk
    case convert src dst' x =>
      rw [Bool.and_eq_true, beq_iff_eq] at hk
      obtain ⟨rfl, hd⟩ := hk
      obtain ⟨⟨k1, n1, e1⟩, h1⟩ := gInt_on hw h
      refine yields_of (convert src t (a.eval x)) rfl ?_ h1
      rw [e1]
      unfold convert
      refine OKS.bind (OKS.underlying src) fun ds => ?_
      cases hu : P.underlying t with
      | none => rw [hu] at hd; cases hd
      | some d =>
        rw [hu] at hd
        cases d <;> simp only [Bool.false_eq_true] at hd
        case int k =>
          intro w0 b w1 hr
          rw [Sem.run_bind, run_underlying hu, Result.andThen_ok] at hr
          have hall : ∀ u, (Sem.run P (Conv.intToInt k n1) u : Result Value) = .ok (.int k (k.wrap n1)) u := fun u => rfl
          have key : b = .int k (k.wrap n1) ∧ w1 = w0 := by
            cases ds <;> simp only [hall, Result.ok.injEq] at hr <;> exact ⟨hr.1.symm, hr.2.symm⟩
          obtain ⟨rfl, rfl⟩ := key
          refine ⟨rfl, fun u _ => ?_⟩
          rw [Sem.run_bind, run_underlying hu, Result.andThen_ok]
          cases ds <;> exact hall u
  | text s e d =>
    cases op <;> simp only [Kd.fits, Bool.false_eq_true] at hk
    case convert src dst' x =>
      simp only [Bool.and_eq_true, beq_iff_eq] at hk
      obtain ⟨⟨⟨⟨⟨rfl, rfl⟩, rfl⟩, h1⟩, h2⟩, h3⟩ := hk
      have hs : P.underlying s = some (.slice e) := by
        cases hu : P.underlying s with
        | none => rw [hu] at h1; cases h1
        | some d =>
          rw [hu] at h1
          cases d <;> first | (cases h1; done) | (simp only [beq_iff_eq] at h1; rw [h1])
      have he : P.underlying e = some (.int .u8) := by
        cases hu : P.underlying e with
        | none => rw [hu] at h2; cases h2
        | some d =>
          rw [hu] at h2
          cases d <;> first | (cases h2; done) | (rename_i k; cases k <;> first | rfl | (cases h2; done))
      have hd : P.underlying d = some .string := by
        cases hu : P.underlying d with
        | none => rw [hu] at h3; cases h3
        | some d =>
          rw [hu] at h3
          cases d <;> first | rfl | (cases h3; done)
      refine yields_of (convert s d (a.eval x)) rfl ?_ h
      generalize a.eval x = v
      have hin : OKS true P (textIn e v) := by
        unfold textIn
        intro w0 b w1 hr
        cases v
        case int k n => exact (show OKS true P (Conv.intToString n) from by unfold Conv.intToString; exact OKS.pure _) w0 b w1 hr
        case string z => exact (OKS.pure _) w0 b w1 hr
        all_goals
          rw [Sem.run_bind, run_underlying he, Result.andThen_ok] at hr
          obtain ⟨rfl, h5⟩ := OKS.bytesToString _ w0 b w1 hr
          refine ⟨rfl, fun u hku => ?_⟩
          rw [Sem.run_bind, run_underlying he, Result.andThen_ok]
          exact h5 u hku
      intro w0 b w1 hr
      have hrun : ∀ u, (convert s d v).run P u = (textIn e v).run P u := fun u => by
        unfold convert textIn
        rw [Sem.run_bind, run_underlying hs, Result.andThen_ok, Sem.run_bind, run_underlying hd, Result.andThen_ok]
        cases v <;> rfl
      rw [hrun] at hr
      obtain ⟨rfl, h6⟩ := hin w0 b w1 hr
      exact ⟨rfl, fun u hku => by rw [hrun]; exact h6 u hku⟩
  | len t =>
    cases op <;> simp only [Kd.fits, Bool.false_eq_true] at hk
    case call c =>
      obtain ⟨callee, args, argTypes⟩ := c
      cases callee <;> try (cases hk; done)
      case builtin b =>
        cases b <;> try (cases hk; done)
        case len =>
          rw [Bool.and_eq_true, beq_iff_eq] at hk
          obtain ⟨h0, hd⟩ := hk
          refine yields_of (Builtin.len_ argTypes type (args.map a.eval)) ?_ ?_ h
          · rfl
          · unfold Builtin.len_
            rw [h0]
            cases hx : (args.map a.eval)[0]? with
            | none => exact OKS.stuck _
            | some x =>
              simp only []
              intro w0 b w1 hr
              cases hu : P.underlying t with
              | none => rw [hu] at hd; cases hd
              | some d =>
                rw [hu] at hd
                rw [Sem.run_bind, run_underlying hu, Result.andThen_ok] at hr
                have key : ∀ s : Sem Value, OKS rd P s → s.run P w0 = .ok b w1 → w1 = w0 ∧ ∀ u, Kept rd w0 u → s.run P u = .ok b u := fun s hs hr => hs w0 b w1 hr
                cases d <;> simp only [Bool.false_eq_true] at hd
                case string =>
                  obtain ⟨rfl, h2⟩ := key _ (by clear hr hx; cases x <;> first | exact OKS.pure _ | exact OKS.stuck _) hr
                  exact ⟨rfl, fun u hku => by rw [Sem.run_bind, run_underlying hu, Result.andThen_ok]; exact h2 u hku⟩
                case slice e =>
                  obtain ⟨rfl, h2⟩ := key _ (by clear hr hx; cases x <;> first | exact OKS.pure _ | exact OKS.stuck _) hr
                  exact ⟨rfl, fun u hku => by rw [Sem.run_bind, run_underlying hu, Result.andThen_ok]; exact h2 u hku⟩
  | cut =>
    cases op <;> simp only [Kd.fits, Bool.false_eq_true] at hk
    case slice t x lo hi mx => exact yields_of (Instr.sliceAt t (a.eval x) (lo.map a.eval) (hi.map a.eval) (mx.map a.eval)) rfl (OKS.sliceAt _ _ _ _ _) h
  | addr =>
    cases op <;> simp only [Kd.fits, Bool.false_eq_true] at hk
    case indexAddr t x ix => exact yields_of (Instr.indexAt t (a.eval x) (a.eval ix)) rfl (OKS.indexAt _ _ _) h
    case fieldAddr t x f => exact yields_of (Instr.fieldAt t (a.eval x) f) rfl (OKS.fieldAt _ _ _ hk) h
  | load =>
    cases op <;> simp only [Kd.fits, Bool.false_eq_true] at hk
    case load t x =>
      obtain rfl : rd = true := hk
      exact yields_of (Instr.loadAt t (a.eval x)) rfl (OKS.loadAt _ _) h

theorem held_mono {S S' : World → Prop} (hS : ∀ u, S u → S' u) : ∀ (fuel : Nat) (listed : Array Bool) (a : Act) (w : World), wpAnyH P .any ops Q S fuel listed a w → wpAnyH P .any ops Q S' fuel listed a w
  | 0, _, _, _, h => h
  | fuel + 1, _, _, _, h => ⟨h.1, fun i hi => wpOp_mono (fun a' w' h' => ⟨hS _ h'.1, held_mono hS fuel _ a' w' h'.2⟩) (h.2 i hi)⟩

theorem plan_sound (hs : Region.noSelect ops = true) : ∀ (p : Plan) (listed : Array Bool) (fuel : Nat) (a : Act) (w : World), p.long ≤ fuel → planOK rd P ops p listed = true →
    wpList P ops (Ends fun _ a' w' => nxt rd P ops Q w p a' w') (pre ops p) a w → wpAnyH P .any ops (Ends Q) (Kept rd w) fuel listed a w := by
  -- an operation that comes up alone, or is one of two
  have one : ∀ (i : Nat) (p : Plan) (listed : Array Bool) (fuel : Nat) (a : Act) (w : World),
      (∀ a' w', wpList P ops (Ends fun _ a2 w2 => nxt rd P ops Q w' p a2 w2) (pre ops p) a' w' → wpAnyH P .any ops (Ends Q) (Kept rd w') fuel (listed.setIfInBounds i true) a' w') →
      wpList P ops (Ends fun _ a1 w1 => Kept rd w w1 ∧ wpList P ops (Ends fun _ a' w' => nxt rd P ops Q w1 p a' w') (pre ops p) a1 w1) (opAt ops i) a w →
      wpOp P ops (Ends Q) i (fun a' w' => Kept rd w w' ∧ wpAnyH P .any ops (Ends Q) (Kept rd w) fuel (listed.setIfInBounds i true) a' w') a w := by
    intro i p listed fuel a w ih h
    have hgo : ∀ a' w', Kept rd w w' ∧ wpList P ops (Ends fun _ a2 w2 => nxt rd P ops Q w' p a2 w2) (pre ops p) a' w' → Kept rd w w' ∧ wpAnyH P .any ops (Ends Q) (Kept rd w) fuel (listed.setIfInBounds i true) a' w' := fun a' w' hh =>
      ⟨hh.1, held_mono (fun u hu => hh.1.trans hu) fuel _ a' w' (ih a' w' hh.2)⟩
    unfold wpOp
    unfold opAt at h
    cases ho : ops[i]? with
    | none =>
      rw [ho] at h
      exact hgo a w h
    | some o =>
      rw [ho] at h
      simp only [] at h ⊢
      have h2 := step_of h
      by_cases hw : Region.wanted o (yielded ops a.tmps) = true
      · rw [if_pos hw] at h2 ⊢
        exact .inl (wp_ends (Oper.wp_mono (fun a' w' h' => hgo a' w' h') h2))
      · rw [if_neg hw] at h2 ⊢
        exact hgo _ w h2
  intro p
  induction p with
  | fin => exact fun listed fuel a w _ hc h => wpAnyH_done (by simpa [planOK] using hc) h fuel
  | take i k p ih =>
    intro listed fuel a w hf hc h
    cases fuel with
    | zero => simp [Plan.long] at hf
    | succ fuel =>
      have hfr : p.long ≤ fuel := by simpa [Plan.long] using hf
      unfold planOK at hc
      rw [Bool.and_eq_true] at hc
      obtain ⟨hc, hcr⟩ := hc
      unfold pre at h
      cases ho : ops[i]? with
      | none => rw [ho] at hc; cases hc
      | some o =>
        rw [ho] at hc h
        simp only [Bool.and_eq_true] at hc
        obtain ⟨⟨hk, hfree⟩, hrd⟩ := hc
        obtain ⟨v, hy, h2⟩ := take_step (Q := fun _ a' w' => nxt rd P ops Q w p a' w') hk h
        exact wpAnyH_take ho hs hfree hrd (fun _ _ _ h => h) hy (Kept.refl rd w) (ih _ fuel _ w hfr hcr h2)
  | alone i p ih =>
    intro listed fuel a w hf hc h
    cases fuel with
    | zero => simp [Plan.long] at hf
    | succ fuel =>
      have hfr : p.long ≤ fuel := by simpa [Plan.long] using hf
      unfold planOK at hc
      simp only [Bool.and_eq_true, beq_iff_eq] at hc
      refine wpAnyH_all hc.1 (by simp) fun j hj => ?_
      rw [List.mem_singleton] at hj
      subst hj
      exact one _ p listed fuel a w (fun a' w' h' => ih _ fuel a' w' hfr hc.2 h') h
  | fork i p j q ihp ihq =>
    intro listed fuel a w hf hc h
    cases fuel with
    | zero => simp [Plan.long] at hf
    | succ fuel =>
      have hfr : max p.long q.long ≤ fuel := by simpa [Plan.long] using hf
      unfold planOK at hc
      simp only [Bool.and_eq_true, beq_iff_eq] at hc
      have h' : _ ∧ _ := h
      refine wpAnyH_all hc.1.1 (by simp) fun k hk => ?_
      rcases List.mem_cons.1 hk with rfl | hk
      · exact one _ p listed fuel a w (fun a' w' h' => ihp _ fuel a' w' (by omega) hc.1.2 h') h'.1
      · rw [List.mem_singleton] at hk
        subst hk
        exact one _ q listed fuel a w (fun a' w' h' => ihq _ fuel a' w' (by omega) hc.2 h') h'.2
end

/-- A region that draws its order, walked by this plan. -/
theorem wp_region_seq (rd : Bool) {P : Program} {id : Nat} {l : List Oper} {Q : Exit → Act → World → Prop} {a : Act} {w : World} (p : Plan) (hm : P.follows .mixedOrders = true) (hs : Region.noSelect l.toArray = true)
    (hc : (decide (p.long ≤ l.length) && planOK rd P l.toArray p (Array.replicate l.length false)) = true)
    (h : wpList P l.toArray (Ends fun _ a' w' => nxt rd P l.toArray Q w.drew p a' w') (pre l.toArray p) a w.drew) : (Code.region id l.toArray true).wp P Q a w := by
  rw [Bool.and_eq_true, decide_eq_true_eq] at hc
  refine Code.wp_mono Ends.imp (wp_region_held (S := Kept rd w.drew) hm ?_)
  have h1 := plan_sound hs p (Array.replicate l.length false) l.length a w.drew hc.1 hc.2 h
  simpa using h1
end Go.Proofs.Ytbljacafmkdlmaa
