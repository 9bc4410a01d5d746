/- A part of the proof: an abstract machine over the model's code, and the walks that use it. No condition. -/
import Derived.Calls
import Derived.Laws.Sem
import Derived.Laws.BytesArg
import Derived.Laws.Entries
import Derived.Laws.AppendOwn

set_option linter.unusedVariables false
set_option linter.unusedSimpArgs false

/- AM: an abstract machine over the model's code. Definitions. -/
namespace AM
open Go

/-- immutable data -/
inductive D where
  | und
  | int (k : IntKind) (n : Int)
  | bool (b : Bool)
  | str (s : ByteArray)
  | nilp
  | nils
  | nilm
  | nilf
  | nili
  | fn (f : Nat)
  | ifc (t : Nat) (v : D)
  | agg (cs : List D)
  | tup (vs : List D)
  | dat (sz n : Nat) (get : Nat → D)
  | ptr (cs : List D) (j : Nat)

def D.cells : D → List D
  | .agg cs => cs
  | d => [d]

/-- the value of one cell -/
def D.one : D → Bool
  | .und => false
  | .agg _ => false
  | .tup _ => false
  | _ => true

/-- what slots hold: data, owners (own, imap, obox), aliases of owners -/
inductive AV where
  | d (x : D)
  | own (sz n : Nat) (get : Nat → D)
  | imap (k : IntKind) (look : Int → Option D)
  | obox (cs : List AV)
  | ref (t : Nat) (j : Nat)
  | eref (t : Nat) (c : Option Nat) (sz i j : Nat)
  | bor (t : Nat) (c : Option Nat)
  | agg (vs : List AV)
  | tup (vs : List AV)
  | clo (f : Nat) (caps : List AV)

abbrev St := Nat → AV

/-- one slot has another value -/
def upd (t : Nat) (v : AV) (st : St) : St := fun u => bif Nat.beq t u then v else st u

/-- the state of a list -/
def ofL : List (Nat × AV) → St
  | [] => fun _ => .d .und
  | (t, v) :: r => upd t v (ofL r)

/-- an element of a list by its place -/
def nth (d : D) : List D → Nat → D
  | [], _ => d
  | x :: _, 0 => x
  | _ :: r, n + 1 => nth d r n

/-! types -/
def aggT (P : Program) (t : TypeId) : Option Bool :=
  match P.underlying t with
  | some (.struct _) => some true
  | some (.array _ _) => some true
  | some _ => some false
  | none => none

def szT (P : Program) (t : TypeId) : Option Nat :=
  match P.info? t with
  | some i => some i.size
  | none => none

def fieldOf (P : Program) (s : TypeId) (f : Nat) : Option Field :=
  match P.underlying s with
  | some (.struct fs) => fs[f]?
  | _ => none

def sliceElem (P : Program) (t : TypeId) : Option TypeId :=
  match P.underlying t with
  | some (.slice e) => some e
  | _ => none

mutual
def ofValue : Value → Option D
  | .bool b => some (.bool b)
  | .int k n => some (.int k n)
  | .string s => some (.str s)
  | .pointer none => some .nilp
  | .slice none 0 0 => some .nils
  | .map none => some .nilm
  | .nilFunc => some .nilf
  | .nilIface => some .nili
  | .func (.func f) ⟨[]⟩ ⟨[]⟩ => some (.fn f)
  | .agg ⟨cs⟩ => (ofValues cs).map .agg
  | _ => none
def ofValues : List Value → Option (List D)
  | [] => some []
  | v :: r => match ofValue v with
    | some d => (ofValues r).map (d :: ·)
    | none => none
end

def zeroD (P : Program) (t : TypeId) : Option D :=
  match P.info? t with
  | some i => match i.zero with
    | some v => ofValue v
    | none => none
  | none => none

/-! operands -/
def deref (t : Nat) : AV → AV
  | .own _ _ _ => .bor t none
  | .imap _ _ => .bor t none
  | .obox _ => .ref t 0
  | v => v

def ev (N : Nat) (st : St) : Operand → AV
  | .tmp t => bif Nat.blt t N then deref t (st t) else .d .und
  | .const v => match ofValue v with
    | some d => .d d
    | none => .d .und
  | .global _ => .d .und
  | .func f => .d (.fn f)

/-! aliases that speak of a slot are struck -/
mutual
def AV.says (t : Nat) : AV → Bool
  | .ref u _ => Nat.beq u t
  | .eref u _ _ _ _ => Nat.beq u t
  | .bor u _ => Nat.beq u t
  | .agg vs => saysAny t vs
  | .tup vs => saysAny t vs
  | .clo _ vs => saysAny t vs
  | _ => false
def saysAny (t : Nat) : List AV → Bool
  | [] => false
  | v :: r => v.says t || saysAny t r
end

def killV (t : Nat) : AV → AV
  | .d x => .d x
  | .own sz n get => .own sz n get
  | .imap k look => .imap k look
  | .obox cs => .obox cs
  | .ref u j => bif Nat.beq u t then .d .und else .ref u j
  | .eref u c sz i j => bif Nat.beq u t then .d .und else .eref u c sz i j
  | .bor u c => bif Nat.beq u t then .d .und else .bor u c
  | .agg vs => bif saysAny t vs then .d .und else .agg vs
  | .tup vs => bif saysAny t vs then .d .und else .tup vs
  | .clo f vs => bif saysAny t vs then .d .und else .clo f vs

def kill (t : Nat) (st : St) : St := fun u => killV t (st u)

/-- a new owner in a slot -/
def St.own (st : St) (t : Nat) (v : AV) : St := upd t v (kill t st)

end AM

/- AM: what the abstract state says of a frame and a world. -/
namespace AM
open Go

inductive DRel (I : Nat → Prop) (w : World) : D → Value → Prop
  | und (v : Value) : DRel I w .und v
  | int (k : IntKind) (n : Int) : DRel I w (.int k n) (.int k n)
  | bool (b : Bool) : DRel I w (.bool b) (.bool b)
  | str (s : ByteArray) : DRel I w (.str s) (.string s)
  | nilp : DRel I w .nilp (.pointer none)
  | nils : DRel I w .nils (.slice none 0 0)
  | nilm : DRel I w .nilm (.map none)
  | nilf : DRel I w .nilf .nilFunc
  | nili : DRel I w .nili .nilIface
  | fn (f : Nat) : DRel I w (.fn f) (.func (.func f) #[] #[])
  | ifc (t : Nat) (d : D) (v : Value) : DRel I w d v → DRel I w (.ifc t d) (.iface t v)
  | agg (cs : List D) (us : List Value) : us.length = cs.length → (∀ (i : Nat) (d : D) (u : Value), cs[i]? = some d → us[i]? = some u → DRel I w d u) → DRel I w (.agg cs) (.agg ⟨us⟩)
  | tup (cs : List D) (us : List Value) : us.length = cs.length → (∀ (i : Nat) (d : D) (u : Value), cs[i]? = some d → us[i]? = some u → DRel I w d u) → DRel I w (.tup cs) (.tuple ⟨us⟩)
  | dat (sz n : Nat) (get : Nat → D) (b o cap : Nat) (c : Array Value) (e : TypeId) (fr : Nat × Nat) (u : Nat → Nat → Value) :
      I b → w.heap[b]? = some (.cells c e fr) → n ≤ cap → (∀ i, i < n → (get i).cells.length = sz) →
      (∀ i j, i < n → j < sz → c[o + i * sz + j]? = some (u i j)) → (∀ i j, i < n → j < sz → (u i j).oneCell' = true) →
      (∀ (i j : Nat) (d : D), i < n → (get i).cells[j]? = some d → DRel I w d (u i j)) →
      DRel I w (.dat sz n get) (.slice (some ⟨b, o, none⟩) n cap)
  | dat0 (sz : Nat) (get : Nat → D) : DRel I w (.dat sz 0 get) (.slice none 0 0)
  | datE (sz cap : Nat) (get : Nat → D) (a : Addr) : DRel I w (.dat sz 0 get) (.slice (some a) 0 cap)
  | ptr (cs : List D) (j b o : Nat) (c : Array Value) (e : TypeId) (fr : Nat × Nat) (u : Nat → Value) :
      I b → w.heap[b]? = some (.cells c e fr) → (∀ i, i < cs.length → c[o + i]? = some (u i)) →
      (∀ (i : Nat) (d : D), cs[i]? = some d → DRel I w d (u i)) → DRel I w (.ptr cs j) (.pointer (some ⟨b, o + j, none⟩))

/-- the ghost: the blocks that stay as they are, and what lies at each place that may own -/
structure G where
  I : Nat → Prop
  val : Nat → Option Nat → Value

def blockOf : Value → Option Nat
  | .pointer (some a) => some a.block
  | .slice (some a) _ _ => some a.block
  | .map (some r) => some r
  | _ => none

inductive ValR (g : G) (w : World) : AV → Value → Prop
  | d (x : D) (v : Value) : DRel g.I w x v → ValR g w (.d x) v
  | ref (t j b o : Nat) : g.val t none = .pointer (some ⟨b, o, none⟩) → ValR g w (.ref t j) (.pointer (some ⟨b, o + j, none⟩))
  | eref (t : Nat) (c : Option Nat) (sz i j b o n cap : Nat) : g.val t c = .slice (some ⟨b, o, none⟩) n cap → i < n →
      ValR g w (.eref t c sz i j) (.pointer (some ⟨b, o + (i * sz + j), none⟩))
  | bor (t : Nat) (c : Option Nat) : ValR g w (.bor t c) (g.val t c)
  | agg (vs : List AV) (us : List Value) : us.length = vs.length → (∀ (i : Nat) (d : AV) (u : Value), vs[i]? = some d → us[i]? = some u → ValR g w d u) → ValR g w (.agg vs) (.agg ⟨us⟩)
  | tup (vs : List AV) (us : List Value) : us.length = vs.length → (∀ (i : Nat) (d : AV) (u : Value), vs[i]? = some d → us[i]? = some u → ValR g w d u) → ValR g w (.tup vs) (.tuple ⟨us⟩)
  | clo (f : Nat) (vs : List AV) (us : List Value) : us.length = vs.length → (∀ (i : Nat) (d : AV) (u : Value), vs[i]? = some d → us[i]? = some u → ValR g w d u) →
      ValR g w (.clo f vs) (.func (.func f) #[] ⟨us⟩)

/-- a slice that owns its block -/
def OwnR (I : Nat → Prop) (w : World) (sz n : Nat) (get : Nat → D) (v : Value) : Prop :=
  ∃ (b o cap : Nat) (c : Array Value) (e : TypeId), v = .slice (some ⟨b, o, none⟩) n cap ∧ n ≤ cap ∧ ¬ I b ∧ w.heap[b]? = some (.cells c e (0, 0)) ∧
    o + cap * sz ≤ c.size ∧ (∀ i, i < n → (get i).cells.length = sz) ∧ (∀ i j, i < n → j < sz → ∃ u, c[o + i * sz + j]? = some u ∧ u.oneCell' = true) ∧
    ∀ (i j : Nat) (d : D), i < n → (get i).cells[j]? = some d → ∃ u, c[o + i * sz + j]? = some u ∧ DRel I w d u

def MapLook (I : Nat → Prop) (w : World) (k : IntKind) (es : List MapEntry) (m : Int) : Option D → Prop
  | none => Instr.findNow (.int k) (.int k m) es 0 = some none
  | some d => ∃ i e, Instr.findNow (.int k) (.int k m) es 0 = some (some (i, e.val)) ∧ es[i]? = some e ∧ DRel I w d e.val

/-- a map of whole numbers that owns its block -/
def MapR (I : Nat → Prop) (w : World) (k : IntKind) (look : Int → Option D) (v : Value) : Prop :=
  ∃ (b : Nat) (es : Array MapEntry) (clock : Nat), v = .map (some b) ∧ ¬ I b ∧ w.heap[b]? = some (.map es clock) ∧
    ∀ m, MapLook I w k es.toList m (look m)

def AV.owns : AV → Bool
  | .own _ _ _ => true
  | .imap _ _ => true
  | _ => false

/-- an owner's value, but for boxes -/
def LeafR (I : Nat → Prop) (w : World) (v : Value) : AV → Prop
  | .own sz n get => OwnR I w sz n get v
  | .imap k look => MapR I w k look v
  | _ => False

/-- a cell of a box -/
def CellR (g : G) (w : World) (t j : Nat) (u : Value) : AV → Prop
  | .d x => DRel g.I w x u
  | .own sz n get => u = g.val t (some j) ∧ OwnR g.I w sz n get u
  | .imap k look => u = g.val t (some j) ∧ MapR g.I w k look u
  | _ => False

def BoxR (g : G) (w : World) (t : Nat) (cs : List AV) (v : Value) : Prop :=
  ∃ (b o : Nat) (c : Array Value) (e : TypeId), v = .pointer (some ⟨b, o, none⟩) ∧ ¬ g.I b ∧ w.heap[b]? = some (.cells c e (0, 0)) ∧
    ∀ (j : Nat) (x : AV), cs[j]? = some x → ∃ u, c[o + j]? = some u ∧ CellR g w t j u x

def SlotR (g : G) (w : World) (t : Nat) (v : Value) : AV → Prop
  | .own sz n get => v = g.val t none ∧ OwnR g.I w sz n get v
  | .imap k look => v = g.val t none ∧ MapR g.I w k look v
  | .obox cs => v = g.val t none ∧ BoxR g w t cs v
  | x => ValR g w x v

/-- does a place own? -/
def ownsAt (st : St) (t : Nat) : Option Nat → Bool
  | none => match st t with
    | .own _ _ _ => true
    | .imap _ _ => true
    | .obox _ => true
    | _ => false
  | some j => match st t with
    | .obox cs => match cs[j]? with
      | some (.own _ _ _) => true
      | some (.imap _ _) => true
      | _ => false
    | _ => false

/-- where a call began: the world, the blocks that were lent, those that stay; how many slots -/
structure Cx where
  w0 : World
  L : Nat → Prop
  I0 : Nat → Prop
  N : Nat
  fix : Nat → Option Value

def noFix : Nat → Option Value := fun _ => none

/-- nothing but memory, and how much was drawn, has turned -/
def Still (a b : World) : Prop := b.os = a.os ∧ b.tape = a.tape ∧ b.output = a.output

theorem Still.refl (a : World) : Still a a := ⟨rfl, rfl, rfl⟩
theorem Still.trans {a b c : World} (h : Still a b) (h2 : Still b c) : Still a c := ⟨h2.1.trans h.1, h2.2.1.trans h.2.1, h2.2.2.trans h.2.2⟩

structure Sat (cx : Cx) (g : G) (st : St) (a : Act) (w : World) : Prop where
  size : a.tmps.size = cx.N
  defers : a.defers = []
  slot : ∀ t, t < cx.N → SlotR g w t (a.tmps.getD t undef) (st t)
  extra : ∀ t, cx.N ≤ t → SlotR g w t (g.val t none) (st t)
  apart : ∀ t c t' c', ownsAt st t c = true → ownsAt st t' c' = true → blockOf (g.val t c) = blockOf (g.val t' c') → t = t' ∧ c = c'
  home : ∀ t c b, ownsAt st t c = true → blockOf (g.val t c) = some b → cx.w0.heap.size ≤ b ∨ cx.L b
  stays : ∀ b, g.I b → b < w.heap.size ∧ (cx.I0 b ∨ cx.w0.heap.size ≤ b ∨ cx.L b)
  more : ∀ b, cx.I0 b → g.I b
  grows : cx.w0.heap.size ≤ w.heap.size
  frame : ∀ b, b < cx.w0.heap.size → ¬ cx.L b → w.heap[b]? = cx.w0.heap[b]?
  fixed : ∀ t v, cx.N ≤ t → cx.fix t = some v → g.val t none = v
  still : Still cx.w0 w

end AM

/- AM: the relation is kept by what does not touch it. -/
namespace AM
open Go

theorem DRel.mono {I I' : Nat → Prop} {w w' : World} {d : D} {v : Value} (h : DRel I w d v) (hI : ∀ b, I b → I' b)
    (hw : ∀ b, I b → w'.heap[b]? = w.heap[b]?) : DRel I' w' d v := by
  induction h with
  | und v => exact .und v
  | int k n => exact .int k n
  | bool b => exact .bool b
  | str s => exact .str s
  | nilp => exact .nilp
  | nils => exact .nils
  | nilm => exact .nilm
  | nilf => exact .nilf
  | nili => exact .nili
  | fn f => exact .fn f
  | ifc t d v _ ih => exact .ifc t d v ih
  | agg cs us hl _ ih => exact .agg cs us hl ih
  | tup cs us hl _ ih => exact .tup cs us hl ih
  | dat sz n get b o cap c e fr u hb hc hn hl hu h1 _ ih =>
    exact .dat sz n get b o cap c e fr u (hI b hb) ((hw b hb).trans hc) hn hl hu h1 ih
  | dat0 sz get => exact .dat0 sz get
  | datE sz cap get a => exact .datE sz cap get a
  | ptr cs j b o c e fr u hb hc hu _ ih => exact .ptr cs j b o c e fr u (hI b hb) ((hw b hb).trans hc) hu ih

theorem saysAny_get {t : Nat} : ∀ {vs : List AV} {i : Nat} {x : AV}, vs[i]? = some x → x.says t = true → saysAny t vs = true
  | [], _, _, h, _ => by simp at h
  | v :: r, 0, x, h, hx => by simp at h; subst h; simp [saysAny, hx]
  | v :: r, i + 1, x, h, hx => by simp at h; simp [saysAny, saysAny_get (vs := r) h hx]

theorem ValR.mono {g g' : G} {w w' : World} {x : AV} {v : Value} (h : ValR g w x v) (hI : ∀ b, g.I b → g'.I b)
    (hw : ∀ b, g.I b → w'.heap[b]? = w.heap[b]?) (hv : ∀ t c, x.says t = true → g'.val t c = g.val t c) : ValR g' w' x v := by
  induction h with
  | d x v hx => exact .d x v (hx.mono hI hw)
  | ref t j b o hb => exact .ref t j b o ((hv t none (by simp [AV.says])).trans hb)
  | eref t c sz i j b o n cap hb hi => exact .eref t c sz i j b o n cap ((hv t c (by simp [AV.says])).trans hb) hi
  | bor t c => rw [← hv t c (by simp [AV.says])]; exact .bor t c
  | agg vs us hl _ ih => exact .agg vs us hl fun i x u hx hu => ih i x u hx hu fun t c ht => hv t c (by simp [AV.says]; exact saysAny_get hx ht)
  | tup vs us hl _ ih => exact .tup vs us hl fun i x u hx hu => ih i x u hx hu fun t c ht => hv t c (by simp [AV.says]; exact saysAny_get hx ht)
  | clo f vs us hl _ ih => exact .clo f vs us hl fun i x u hx hu => ih i x u hx hu fun t c ht => hv t c (by simp [AV.says]; exact saysAny_get hx ht)

theorem OwnR.mono {I I' : Nat → Prop} {w w' : World} {sz n : Nat} {get : Nat → D} {v : Value} (h : OwnR I w sz n get v) (hI : ∀ b, I b → I' b)
    (hw : ∀ b, I b → w'.heap[b]? = w.heap[b]?) (hb : ∀ b, blockOf v = some b → w'.heap[b]? = w.heap[b]? ∧ ¬ I' b) : OwnR I' w' sz n get v := by
  obtain ⟨b, o, cap, c, e, rfl, hn, hi, hc, ho, hl, hone, hd⟩ := h
  obtain ⟨h1, h2⟩ := hb b rfl
  exact ⟨b, o, cap, c, e, rfl, hn, h2, h1.trans hc, ho, hl, hone, fun i j d hi hj => let ⟨u, hu, hd⟩ := hd i j d hi hj; ⟨u, hu, hd.mono hI hw⟩⟩

theorem MapR.mono {I I' : Nat → Prop} {w w' : World} {k : IntKind} {look : Int → Option D} {v : Value} (h : MapR I w k look v) (hI : ∀ b, I b → I' b)
    (hw : ∀ b, I b → w'.heap[b]? = w.heap[b]?) (hb : ∀ b, blockOf v = some b → w'.heap[b]? = w.heap[b]? ∧ ¬ I' b) : MapR I' w' k look v := by
  obtain ⟨b, es, clock, rfl, hi, hc, hl⟩ := h
  obtain ⟨h1, h2⟩ := hb b rfl
  refine ⟨b, es, clock, rfl, h2, h1.trans hc, fun m => ?_⟩
  have := hl m
  cases hm : look m with
  | none => rw [hm] at this; exact this
  | some d => rw [hm] at this; obtain ⟨i, e, h3, h4, h5⟩ := this; exact ⟨i, e, h3, h4, h5.mono hI hw⟩

/-- what an owner needs to be kept: its block, those of its cells -/
theorem CellR.mono {g g' : G} {w w' : World} {t j : Nat} {u : Value} {x : AV} (h : CellR g w t j u x) (hI : ∀ b, g.I b → g'.I b)
    (hw : ∀ b, g.I b → w'.heap[b]? = w.heap[b]?) (hv : x.owns = true → g'.val t (some j) = g.val t (some j))
    (hb : x.owns = true → ∀ b, blockOf (g.val t (some j)) = some b → w'.heap[b]? = w.heap[b]? ∧ ¬ g'.I b) : CellR g' w' t j u x := by
  cases x with
  | d x => exact DRel.mono h hI hw
  | own sz n get =>
    obtain ⟨h1, h2⟩ := h
    refine ⟨h1.trans (hv rfl).symm, h2.mono hI hw ?_⟩
    rw [h1]; exact hb rfl
  | imap k look =>
    obtain ⟨h1, h2⟩ := h
    refine ⟨h1.trans (hv rfl).symm, h2.mono hI hw ?_⟩
    rw [h1]; exact hb rfl
  | _ => exact h.elim

theorem BoxR.mono {g g' : G} {w w' : World} {t : Nat} {cs : List AV} {v : Value} (h : BoxR g w t cs v) (hI : ∀ b, g.I b → g'.I b)
    (hw : ∀ b, g.I b → w'.heap[b]? = w.heap[b]?) (hb : ∀ b, blockOf v = some b → w'.heap[b]? = w.heap[b]? ∧ ¬ g'.I b)
    (hv : ∀ (j : Nat) (x : AV), cs[j]? = some x → x.owns = true → g'.val t (some j) = g.val t (some j))
    (hc : ∀ (j : Nat) (x : AV), cs[j]? = some x → x.owns = true → ∀ b, blockOf (g.val t (some j)) = some b → w'.heap[b]? = w.heap[b]? ∧ ¬ g'.I b) : BoxR g' w' t cs v := by
  obtain ⟨b, o, c, e, rfl, hi, h1, h2⟩ := h
  obtain ⟨h3, h4⟩ := hb b rfl
  refine ⟨b, o, c, e, rfl, h4, h3.trans h1, fun j x hx => ?_⟩
  obtain ⟨u, hu, hr⟩ := h2 j x hx
  exact ⟨u, hu, hr.mono hI hw (hv j x hx) (hc j x hx)⟩

/-! reading the state -/
theorem get_upd (t u : Nat) (v : AV) (st : St) : upd t v st u = if t = u then v else st u := by
  by_cases h : t = u
  · subst h; simp [upd]
  · have : Nat.beq t u = false := by
      cases hb : Nat.beq t u with
      | false => rfl
      | true => exact absurd (Nat.eq_of_beq_eq_true hb) h
    simp [upd, this, h]

theorem get_kill (t u : Nat) (st : St) : kill t st u = if (st u).says t then .d .und else st u := by
  unfold kill
  generalize st u = x
  have bif_ite : ∀ (b : Bool) (y : AV), (bif b then AV.d .und else y) = if b = true then AV.d .und else y := fun b y => by cases b <;> rfl
  cases x <;> first | rfl | exact bif_ite _ _

theorem SlotR.und {g : G} {w : World} {t : Nat} {v : Value} : SlotR g w t v (.d .und) := ValR.d _ _ (.und v)

/-- a value that owns nothing -/
def AV.plain : AV → Bool
  | .own _ _ _ => false
  | .imap _ _ => false
  | .obox _ => false
  | _ => true

theorem SlotR_plain {g : G} {w : World} {t : Nat} {v : Value} {x : AV} (hx : x.plain = true) : SlotR g w t v x ↔ ValR g w x v := by
  cases x <;> first | exact Iff.rfl | simp [AV.plain] at hx

theorem ownsAt_plain {st : St} {t : Nat} {c : Option Nat} (h : (st t).plain = true) : ownsAt st t c = false := by
  cases c <;> simp only [ownsAt] <;> generalize st t = x at h <;> cases x <;> first | rfl | simp [AV.plain] at h

theorem ownsAt_congr {st st' : St} {t : Nat} (h : st' t = st t) (c : Option Nat) : ownsAt st' t c = ownsAt st t c := by
  cases c <;> simp only [ownsAt, h]

/-- a world in which all blocks that count are as they were -/
theorem SlotR.mono {g : G} {w w' : World} {st : St} {t : Nat} {v : Value} (h : SlotR g w t v (st t))
    (hw : ∀ b, g.I b → w'.heap[b]? = w.heap[b]?)
    (ho : ∀ c b, ownsAt st t c = true → blockOf (g.val t c) = some b → w'.heap[b]? = w.heap[b]?) : SlotR g w' t v (st t) := by
  generalize hx : st t = x at h
  have hI : ∀ b, g.I b → g.I b := fun _ h => h
  cases x with
  | own sz n get =>
    obtain ⟨h1, h2⟩ := h
    have hni := h2
    obtain ⟨b, o, cap, c, e, hv, -, hi, -⟩ := hni
    exact ⟨h1, h2.mono hI hw fun b' hb' => ⟨ho none b' (by simp [ownsAt, hx]) (h1 ▸ hb'), by rw [hv] at hb'; simp [blockOf] at hb'; exact hb' ▸ hi⟩⟩
  | imap k look =>
    obtain ⟨h1, h2⟩ := h
    have hni := h2
    obtain ⟨b, es, clock, hv, hi, -⟩ := hni
    exact ⟨h1, h2.mono hI hw fun b' hb' => ⟨ho none b' (by simp [ownsAt, hx]) (h1 ▸ hb'), by rw [hv] at hb'; simp [blockOf] at hb'; exact hb' ▸ hi⟩⟩
  | obox cs =>
    obtain ⟨h1, h2⟩ := h
    have hni := h2
    obtain ⟨b, o, c, e, hv, hi, hcc, hall⟩ := hni
    refine ⟨h1, h2.mono hI hw (fun b' hb' => ⟨ho none b' (by simp [ownsAt, hx]) (h1 ▸ hb'), by rw [hv] at hb'; simp [blockOf] at hb'; exact hb' ▸ hi⟩) (fun _ _ _ _ => rfl) fun j x hj hxo b' hb' => ?_⟩
    obtain ⟨u, -, hr⟩ := hall j x hj
    refine ⟨ho (some j) b' (by simp only [ownsAt, hx, hj]; cases x <;> simp_all [AV.owns]) hb', ?_⟩
    cases x with
    | own sz n get => obtain ⟨hu, b, o, cap, c, e, hv, -, hi, -⟩ := hr; rw [← hu, hv] at hb'; simp [blockOf] at hb'; exact hb' ▸ hi
    | imap k look => obtain ⟨hu, b, es, clock, hv, hi, -⟩ := hr; rw [← hu, hv] at hb'; simp [blockOf] at hb'; exact hb' ▸ hi
    | _ => simp [AV.owns] at hxo
  | _ => exact ValR.mono h hI hw fun _ _ _ => rfl

/-- an owner's block lies in the world -/
theorem owns_lt {cx : Cx} {g : G} {st : St} {a : Act} {w : World} (h : Sat cx g st a w) {t : Nat} {c : Option Nat} {b : Nat}
    (ho : ownsAt st t c = true) (hb : blockOf (g.val t c) = some b) : b < w.heap.size ∧ ¬ g.I b := by
  have hs : ∃ v, SlotR g w t v (st t) := by
    by_cases ht : t < cx.N
    · exact ⟨_, h.slot t ht⟩
    · exact ⟨_, h.extra t (Nat.le_of_not_lt ht)⟩
  obtain ⟨v, hs⟩ := hs
  have lt : ∀ {b : Nat} {o : Obj}, w.heap[b]? = some o → b < w.heap.size := fun {b o} hh => by
    rcases Nat.lt_or_ge b w.heap.size with h | h
    · exact h
    · simp [Array.getElem?_eq_none h] at hh
  generalize hx : st t = x at hs
  cases c with
  | none =>
    cases x with
    | own sz n get => obtain ⟨h1, b', o, cap, c, e, hv, -, hi, hc, -⟩ := hs; rw [← h1, hv] at hb; simp [blockOf] at hb; subst hb; exact ⟨lt hc, hi⟩
    | imap k look => obtain ⟨h1, b', es, clock, hv, hi, hc, -⟩ := hs; rw [← h1, hv] at hb; simp [blockOf] at hb; subst hb; exact ⟨lt hc, hi⟩
    | obox cs => obtain ⟨h1, b', o, c, e, hv, hi, hc, -⟩ := hs; rw [← h1, hv] at hb; simp [blockOf] at hb; subst hb; exact ⟨lt hc, hi⟩
    | _ => simp [ownsAt, hx] at ho
  | some j =>
    cases x with
    | obox cs =>
      obtain ⟨h1, b', o, c, e, hv, hi, hc, hall⟩ := hs
      simp only [ownsAt, hx] at ho
      cases hj : cs[j]? with
      | none => simp [hj] at ho
      | some y =>
        rw [hj] at ho
        obtain ⟨u, -, hr⟩ := hall j y hj
        cases y with
        | own sz n get => obtain ⟨hu, b, o, cap, c, e, hv, -, hi, hc, -⟩ := hr; rw [← hu, hv] at hb; simp [blockOf] at hb; subst hb; exact ⟨lt hc, hi⟩
        | imap k look => obtain ⟨hu, b, es, clock, hv, hi, hc, -⟩ := hr; rw [← hu, hv] at hb; simp [blockOf] at hb; subst hb; exact ⟨lt hc, hi⟩
        | _ => simp at ho
    | _ => simp [ownsAt, hx] at ho

end AM

/- AM: how a state goes over into another one. -/
namespace AM
open Go

theorem SlotR.gmono {g g' : G} {w w' : World} {st : St} {t : Nat} {v : Value} (h : SlotR g w t v (st t)) (hI : ∀ b, g.I b → g'.I b)
    (hw : ∀ b, g.I b → w'.heap[b]? = w.heap[b]?) (hs : ∀ t' c, (st t).says t' = true → g'.val t' c = g.val t' c)
    (hv : ∀ c, ownsAt st t c = true → g'.val t c = g.val t c)
    (ho : ∀ c b, ownsAt st t c = true → blockOf (g.val t c) = some b → w'.heap[b]? = w.heap[b]? ∧ ¬ g'.I b) : SlotR g' w' t v (st t) := by
  generalize hx : st t = x at h hs
  cases x with
  | own sz n get =>
    obtain ⟨h1, h2⟩ := h
    exact ⟨h1.trans (hv none (by simp [ownsAt, hx])).symm, h2.mono hI hw fun b' hb' => ho none b' (by simp [ownsAt, hx]) (h1 ▸ hb')⟩
  | imap k look =>
    obtain ⟨h1, h2⟩ := h
    exact ⟨h1.trans (hv none (by simp [ownsAt, hx])).symm, h2.mono hI hw fun b' hb' => ho none b' (by simp [ownsAt, hx]) (h1 ▸ hb')⟩
  | obox cs =>
    obtain ⟨h1, h2⟩ := h
    have own : ∀ (j : Nat) (x : AV), cs[j]? = some x → x.owns = true → ownsAt st t (some j) = true := fun j x hj hxo => by
      simp only [ownsAt, hx, hj]; cases x <;> simp_all [AV.owns]
    exact ⟨h1.trans (hv none (by simp [ownsAt, hx])).symm, h2.mono hI hw (fun b' hb' => ho none b' (by simp [ownsAt, hx]) (h1 ▸ hb'))
      (fun j x hj hxo => hv (some j) (own j x hj hxo)) (fun j x hj hxo b hb => ho (some j) b (own j x hj hxo) hb)⟩
  | _ => exact ValR.mono h hI hw hs

theorem Sat.step {cx : Cx} {g : G} {st : St} {a : Act} {w : World} (h : Sat cx g st a w) (g' : G) (st' : St) (a' : Act) (w' : World) (T : Nat → Prop)
    (hsize : a'.tmps.size = a.tmps.size) (hdef : a'.defers = [])
    (hkeep : ∀ u, ¬ T u → (st' u = st u ∧ (∀ t c, (st u).says t = true → g'.val t c = g.val t c) ∨ st' u = .d .und) ∧ a'.tmps.getD u undef = a.tmps.getD u undef)
    (hT : ∀ u, T u → u < cx.N → SlotR g' w' u (a'.tmps.getD u undef) (st' u))
    (hX : ∀ u, T u → cx.N ≤ u → SlotR g' w' u (g'.val u none) (st' u))
    (hval : ∀ u c, ¬ T u → g'.val u c = g.val u c)
    (hI : ∀ b, g.I b → g'.I b)
    (hw : ∀ b, g.I b → w'.heap[b]? = w.heap[b]?)
    (ho : ∀ u c b, ¬ T u → ownsAt st u c = true → blockOf (g.val u c) = some b → w'.heap[b]? = w.heap[b]? ∧ ¬ g'.I b)
    (ha : ∀ u c u' c', T u → ownsAt st' u c = true → ownsAt st' u' c' = true → blockOf (g'.val u c) = blockOf (g'.val u' c') → u = u' ∧ c = c')
    (hh : ∀ u c b, T u → ownsAt st' u c = true → blockOf (g'.val u c) = some b → cx.w0.heap.size ≤ b ∨ cx.L b)
    (hst : ∀ b, g'.I b → b < w'.heap.size ∧ (cx.I0 b ∨ cx.w0.heap.size ≤ b ∨ cx.L b))
    (hg : cx.w0.heap.size ≤ w'.heap.size)
    (hf : ∀ b, b < cx.w0.heap.size → ¬ cx.L b → w'.heap[b]? = cx.w0.heap[b]?)
    (hfx : ∀ u, T u → cx.N ≤ u → g'.val u none = g.val u none) (hsl : Still w w') : Sat cx g' st' a' w' := by
  have hfxd : ∀ t v, cx.N ≤ t → cx.fix t = some v → g'.val t none = v := fun t v hN hx => by
    by_cases hTt : T t
    · rw [hfx t hTt hN]; exact h.fixed t v hN hx
    · rw [hval t none hTt]; exact h.fixed t v hN hx
  have own : ∀ u c, ¬ T u → ownsAt st' u c = true → ownsAt st u c = true := fun u c hu hc => by
    rcases (hkeep u hu).1 with ⟨h1, -⟩ | h1
    · rw [ownsAt_congr h1] at hc; exact hc
    · rw [ownsAt_plain (by rw [h1]; rfl)] at hc; simp at hc
  have keep : ∀ u v, ¬ T u → SlotR g w u v (st u) → SlotR g' w' u v (st' u) := fun u v hu hs => by
    rcases (hkeep u hu).1 with ⟨h1, h2⟩ | h1
    · rw [h1]
      exact hs.gmono hI hw h2 (fun c _ => hval u c hu) (fun c b hc hb => ho u c b hu hc hb)
    · rw [h1]; exact SlotR.und
  refine ⟨hsize.trans h.size, hdef, fun t ht => ?_, fun t ht => ?_, fun t c t' c' h1 h2 hb => ?_, fun t c b h1 hb => ?_, hst, fun b hb => hI b (h.more b hb), hg, hf, hfxd, h.still.trans hsl⟩
  · by_cases hTt : T t
    · exact hT t hTt ht
    · rw [(hkeep t hTt).2]; exact keep t _ hTt (h.slot t ht)
  · by_cases hTt : T t
    · exact hX t hTt ht
    · rw [hval t none hTt]; exact keep t _ hTt (h.extra t ht)
  · by_cases hTt : T t
    · exact ha t c t' c' hTt h1 h2 hb
    · by_cases hTt' : T t'
      · obtain ⟨h3, h4⟩ := ha t' c' t c hTt' h2 h1 hb.symm
        exact ⟨h3.symm, h4.symm⟩
      · rw [hval t c hTt, hval t' c' hTt'] at hb
        exact h.apart t c t' c' (own t c hTt h1) (own t' c' hTt' h2) hb
  · by_cases hTt : T t
    · exact hh t c b hTt h1 hb
    · rw [hval t c hTt] at hb; exact h.home t c b (own t c hTt h1) hb

/-- only what does not lie in memory has turned -/
theorem Sat.world {cx : Cx} {g : G} {st : St} {a : Act} {w w' : World} (h : Sat cx g st a w) (hw : w'.heap = w.heap) (hsl : Still w w') : Sat cx g st a w' := by
  refine h.step g st a w' (fun _ => False) rfl h.defers (fun u _ => ⟨.inl ⟨rfl, fun _ _ _ => rfl⟩, rfl⟩) (fun _ h => h.elim) (fun _ h => h.elim) (fun _ _ _ => rfl) (fun _ h => h)
    (fun b _ => by rw [hw]) (fun u c b _ hc hb => ⟨by rw [hw], (owns_lt h hc hb).2⟩) (fun _ _ _ _ h => h.elim) (fun _ _ _ h => h.elim) (fun b hb => by rw [hw]; exact h.stays b hb)
    (by rw [hw]; exact h.grows) (fun b h1 h2 => by rw [hw]; exact h.frame b h1 h2) (fun _ h => h.elim) hsl

theorem put_getD_same {a : Act} {t : Nat} {v : Value} (h : t < a.tmps.size) : (a.put (some t) v).tmps.getD t undef = v := by
  simp [Act.put, Array.getD_eq_getD_getElem?, h]

theorem put_getD_other {a : Act} {t u : Nat} {v : Value} (h : u ≠ t) : (a.put (some t) v).tmps.getD u undef = a.tmps.getD u undef := by
  simp only [Act.put, Array.getD_eq_getD_getElem?]
  rw [Array.getElem?_setIfInBounds_ne (Ne.symm h)]

theorem put_size {a : Act} {t : Option Tmp} {v : Value} : (a.put t v).tmps.size = a.tmps.size := by
  cases t <;> simp [Act.put]

theorem put_defers {a : Act} {t : Option Tmp} {v : Value} : (a.put t v).defers = a.defers := by
  cases t <;> rfl

theorem put_none {a : Act} {v : Value} : a.put none v = a := rfl

/-- a slot has another value, that owns nothing -/
theorem Sat.put {cx : Cx} {g : G} {st : St} {a : Act} {w : World} (h : Sat cx g st a w) {t : Nat} {x : AV} {v : Value} (ht : t < cx.N) (hp : x.plain = true)
    (hv : ValR g w x v) : Sat cx g (upd t x st) (a.put (some t) v) w := by
  have ho : ∀ {u c}, ownsAt (upd t x st) u c = true → u ≠ t ∧ ownsAt st u c = true := fun {u c} hc => by
    by_cases hu : u = t
    · subst hu; rw [ownsAt_plain (by rw [get_upd]; simpa using hp)] at hc; simp at hc
    · exact ⟨hu, by rw [ownsAt_congr (st := st) (by rw [get_upd, if_neg (Ne.symm hu)])] at hc; exact hc⟩
  refine ⟨put_size.trans h.size, put_defers.trans h.defers, fun u hu => ?_, fun u hu => ?_, fun u c u' c' h1 h2 hb => h.apart u c u' c' (ho h1).2 (ho h2).2 hb,
    fun u c b h1 hb => h.home u c b (ho h1).2 hb, h.stays, h.more, h.grows, h.frame, h.fixed, h.still⟩
  · rw [get_upd]
    by_cases hut : t = u
    · subst hut; rw [if_pos rfl, put_getD_same (by rw [h.size]; exact ht)]; exact (SlotR_plain hp).2 hv
    · rw [if_neg hut, put_getD_other (Ne.symm hut)]; exact h.slot u hu
  · rw [get_upd, if_neg (by omega)]; exact h.extra u hu

end AM

/- AM: the conditions of code. -/
namespace AM
open Go

/-! reading -/
def AV.toD : AV → Option D
  | .d x => some x
  | _ => none

def toDs : List AV → Option (List D)
  | [] => some []
  | v :: r => match v.toD with
    | some x => match toDs r with
      | some xs => some (x :: xs)
      | none => none
    | none => none

/-- data, or a struct of data -/
def toD2 : AV → Option D
  | .d x => some x
  | .agg vs => match toDs vs with
    | some ds => some (.agg ds)
    | none => none
  | _ => none

/-- the slice that a place owns -/
def sliceAt (st : St) (t : Nat) : Option Nat → Option (Nat × Nat × (Nat → D))
  | none => match st t with
    | .own sz n get => some (sz, n, get)
    | _ => none
  | some j => match st t with
    | .obox cs => match cs[j]? with
      | some (.own sz n get) => some (sz, n, get)
      | _ => none
    | _ => none

def mapAt (st : St) (t : Nat) : Option Nat → Option (IntKind × (Int → Option D))
  | none => match st t with
    | .imap k look => some (k, look)
    | _ => none
  | some j => match st t with
    | .obox cs => match cs[j]? with
      | some (.imap k look) => some (k, look)
      | _ => none
    | _ => none

/-- a cell of a box, as it is loaded -/
def cellAV (t j : Nat) : AV → Option AV
  | .d x => some (.d x)
  | .own _ _ _ => some (.bor t (some j))
  | .imap _ _ => some (.bor t (some j))
  | _ => none

def cellAVs (t : Nat) : Nat → List AV → Option (List AV)
  | _, [] => some []
  | j, c :: r => match cellAV t j c with
    | some x => match cellAVs t (j + 1) r with
      | some xs => some (x :: xs)
      | none => none
    | none => none

def mkAgg (vs : List AV) : AV :=
  match toDs vs with
  | some ds => .d (.agg ds)
  | none => .agg vs

def mkTup (vs : List AV) : AV :=
  match toDs vs with
  | some ds => .d (.tup ds)
  | none => .tup vs

/-! operators -/
def byteAt (s : ByteArray) (i : Int) : Int := if h : i.toNat < s.size then ((s[i.toNat]'h).toNat : Int) else 0
def strEq (x y : ByteArray) : Bool := x.toList == y.toList
def andI (k : IntKind) (x y : Int) : Int := k.wrap ((BitVec.ofInt k.bits x &&& BitVec.ofInt k.bits y).toNat : Int)
def orI (k : IntKind) (x y : Int) : Int := k.wrap ((BitVec.ofInt k.bits x ||| BitVec.ofInt k.bits y).toNat : Int)
def xorI (k : IntKind) (x y : Int) : Int := k.wrap ((BitVec.ofInt k.bits x ^^^ BitVec.ofInt k.bits y).toNat : Int)
def shlI (k : IntKind) (x y : Int) : Int := k.wrap (x * 2 ^ min y.toNat k.bits)
def shrI (k : IntKind) (x y : Int) : Int := x.fdiv (2 ^ min y.toNat k.bits)

def kindEq : IntKind → IntKind → Bool
  | .i8, .i8 => true
  | .i16, .i16 => true
  | .i32, .i32 => true
  | .i64, .i64 => true
  | .u8, .u8 => true
  | .u16, .u16 => true
  | .u32, .u32 => true
  | .u64, .u64 => true
  | _, _ => false

/-- what an operation tells: what must be so, and its value -/
abbrev Res := Option (Option Prop × AV)
def okR (v : AV) : Res := some (none, v)
def ifR (c : Prop) (v : AV) : Res := some (some c, v)

/-- whole numbers of one kind -/
def intF (op : BinOp) (k : IntKind) (x y : Int) : Res :=
  match op with
  | .add => okR (.d (.int k (k.wrap (x + y))))
  | .sub => okR (.d (.int k (k.wrap (x - y))))
  | .mul => okR (.d (.int k (k.wrap (x * y))))
  | .quo => ifR (y ≠ 0) (.d (.int k (k.wrap (x.tdiv y))))
  | .rem => ifR (y ≠ 0) (.d (.int k (x.tmod y)))
  | .and => okR (.d (.int k (andI k x y)))
  | .or => okR (.d (.int k (orI k x y)))
  | .xor => okR (.d (.int k (xorI k x y)))
  | .eql => okR (.d (.bool (x == y)))
  | .neq => okR (.d (.bool (x != y)))
  | .lss => okR (.d (.bool (decide (x < y))))
  | .leq => okR (.d (.bool (decide (x ≤ y))))
  | .gtr => okR (.d (.bool (decide (x > y))))
  | .geq => okR (.d (.bool (decide (x ≥ y))))
  | _ => none

def strF (op : BinOp) (x y : ByteArray) : Res :=
  match op with
  | .add => ifR ((x.size + y.size : Nat) ≤ 9223372036854775807) (.d (.str (x ++ y)))
  | .eql => okR (.d (.bool (strEq x y)))
  | .neq => okR (.d (.bool (!strEq x y)))
  | _ => none

/-- are two values one (types without whole numbers and strings) -/
def eqAV (P : Program) (t : TypeId) (x y : AV) : Option Bool :=
  match P.underlying t, x, y with
  | some .bool, .d (.bool a), .d (.bool b) => some (a == b)
  | some (.pointer _), .d .nilp, .d .nilp => some true
  | some (.pointer _), .ref _ _, .d .nilp => some false
  | some (.pointer _), .eref _ _ _ _ _, .d .nilp => some false
  | some (.pointer _), .d (.ptr _ _), .d .nilp => some false
  | some (.slice _), .d .nils, .d .nils => some true
  | some (.slice _), .d (.dat _ (_ + 1) _), .d .nils => some false
  | some (.map _ _), .d .nilm, .d .nilm => some true
  | some (.func _ _ _), .d .nilf, .d .nilf => some true
  | some (.func _ _ _), .d (.fn _), .d .nilf => some false
  | some (.func _ _ _), .clo _ _, .d .nilf => some false
  | some (.interface _), .d (.ifc _ _), .d .nili => some false
  | _, _, _ => none

/-- an owner against nil -/
def eqOwn (P : Program) (st : St) (t : TypeId) (x y : AV) : Option Bool :=
  match P.underlying t, x, y with
  | some (.slice _), .bor u c, .d .nils => match sliceAt st u c with
    | some _ => some false
    | none => none
  | some (.map _ _), .bor u c, .d .nilm => match mapAt st u c with
    | some _ => some false
    | none => none
  | _, _, _ => none

def binF (P : Program) (st : St) (op : BinOp) (t : TypeId) (x y : AV) : Res :=
  match x, y with
  | .d (.int k a), .d (.int k' b) =>
    match op with
    | .shl => ifR (0 ≤ b) (.d (.int k (shlI k a b)))
    | .shr => ifR (0 ≤ b) (.d (.int k (shrI k a b)))
    | _ => bif kindEq k k' then intF op k a b else none
  | .d (.str a), .d (.str b) => strF op a b
  | x, y => match op with
    | .eql => match eqAV P t x y with
      | some b => okR (.d (.bool b))
      | none => match eqOwn P st t x y with
        | some b => okR (.d (.bool b))
        | none => none
    | .neq => match eqAV P t x y with
      | some b => okR (.d (.bool (!b)))
      | none => match eqOwn P st t x y with
        | some b => okR (.d (.bool (!b)))
        | none => none
    | _ => none

def unF (op : UnOp) (x : AV) : Res :=
  match op, x with
  | .neg, .d (.int k n) => okR (.d (.int k (k.wrap (0 - n))))
  | .not, .d (.bool b) => okR (.d (.bool (!b)))
  | _, _ => none

def isAggD : D → Bool
  | .agg _ => true
  | _ => false

def D.good : D → Bool
  | .agg _ => true
  | d => d.one

/-! parts -/
def takeF (n : Nat) (l : List D) : Option (List D) :=
  bif Nat.beq (l.take n).length n then some (l.take n) else none

/-- cells of data as a value of a type -/
def partF (P : Program) (t : TypeId) (cs : List D) (j : Nat) : Option D :=
  match aggT P t, szT P t with
  | some true, some k => match takeF k (cs.drop j) with
    | some l => some (.agg l)
    | none => none
  | some false, _ => cs[j]?
  | _, _ => none

def dR : Option D → Res
  | some d => okR (.d d)
  | none => none

def dIfR (c : Prop) : Option D → Res
  | some d => ifR c (.d d)
  | none => none

/-- a value of data in the place of a struct's field -/
def setD (cs : List AV) (j : Nat) : List D → List AV
  | [] => cs
  | d :: r => setD (cs.set j (.d d)) (j + 1) r

def setDs (cs : List D) (j : Nat) : List D → List D
  | [] => cs
  | d :: r => setDs (cs.set j d) (j + 1) r

def allOne : List D → Bool
  | [] => true
  | d :: r => d.one && allOne r

/-- parts that are data -/
def partDs (N : Nat) (st : St) : List (Nat × Operand) → Option (List (Nat × D))
  | [] => some []
  | (i, x) :: r => match toD2 (ev N st x) with
    | some d => match partDs N st r with
      | some ds => some ((i, d) :: ds)
      | none => none
    | none => none

/-- parts filled in -/
def fillD (place : Nat → Option (Nat × Nat)) (cs : List D) : List (Nat × D) → Option (List D)
  | [] => some cs
  | (i, d) :: r => match place i with
    | none => none
    | some (off, size) => bif Nat.beq d.cells.length size && (Nat.ble (off + size) cs.length && allOne d.cells) then fillD place (setDs cs off d.cells) r else none

def szAll (P : Program) : List Field → Option (List (Nat × Nat))
  | [] => some []
  | f :: r => match szT P f.type, szAll P r with
    | some k, some l => some ((f.offset, k) :: l)
    | _, _ => none

def placeOf (P : Program) (t : TypeId) : Option (Nat → Option (Nat × Nat)) :=
  match P.underlying t with
  | some (.struct fs) => match szAll P fs.toList with
    | some l => some fun i => l[i]?
    | none => none
  | some (.array _ e) => match szT P e with
    | some k => some fun i => some (i * k, k)
    | none => none
  | _ => none

def one1 : D → D
  | .agg _ => .und
  | d => d

/-- chunks of cells as elements -/
def chunk (agg : Bool) (sz : Nat) (cs : List D) (i : Nat) : D :=
  bif agg then .agg ((cs.drop (i * sz)).take sz) else one1 (nth .und cs i)

def zeros (n : Nat) (z : List D) : List D :=
  match n with
  | 0 => []
  | n + 1 => z ++ zeros n z

/-! builtins -/
def minI (a b : Int) : Int := if b < a then b else a
def maxI (a b : Int) : Int := if b > a then b else a

def foldInts (f : Int → Int → Int) (k : IntKind) : Int → List AV → Option Int
  | x, [] => some x
  | x, .d (.int k' y) :: r => bif kindEq k k' then foldInts f k (f x y) r else none
  | _, _ => none

def lenF (P : Program) (st : St) (t : TypeId) (x : AV) : Res :=
  match P.underlying t, x with
  | some .string, .d (.str s) => okR (.d (.int .i64 s.size))
  | some (.slice _), .d (.dat _ n _) => okR (.d (.int .i64 n))
  | some (.slice _), .d .nils => okR (.d (.int .i64 0))
  | some (.slice _), .bor u c => match sliceAt st u c with
    | some (_, n, _) => okR (.d (.int .i64 n))
    | none => none
  | _, _ => none

def pickF (c a b : AV) : Res :=
  match c with
  | .d (.bool x) => match a, b with
    | .d (.bool p), .d (.bool q) => okR (.d (.bool (cond x p q)))
    | _, _ => match x with
      | true => okR a
      | false => okR b
  | _ => none

/-- a bound of a slice expression -/
def bound (N : Nat) (st : St) (n : Int) : Option Operand → Option Int
  | none => some n
  | some x => match ev N st x with
    | .d (.int _ m) => some m
    | _ => none

def sliceF (P : Program) (t : TypeId) (x : AV) (lo : Option Int) (hi : Int → Option Int) : Res :=
  match P.underlying t, x, lo with
  | some .string, .d (.str s), some l => match hi s.size with
    | some h => ifR (0 ≤ l ∧ l ≤ h ∧ h ≤ s.size) (.d (.str (s.extract l.toNat h.toNat)))
    | none => none
  | some (.slice e), .d (.dat sz n get), some l => match hi n, szT P e with
    | some h, some k => bif Nat.beq sz k then ifR (0 ≤ l ∧ l ≤ h ∧ h ≤ n) (.d (.dat sz (h.toNat - l.toNat) (fun i => get (i + l.toNat)))) else none
    | _, _ => none
  | some (.slice e), .d .nils, some l => match hi 0, szT P e with
    | some h, some _ => ifR (l = 0 ∧ h = 0) (.d .nils)
    | _, _ => none
  | _, _, _ => none

def loadF (P : Program) (st : St) (t : TypeId) (x : AV) : Res :=
  match x with
  | .ref u j => match st u, aggT P t, szT P t with
    | .obox cs, some true, some k => match cellAVs u j ((cs.drop j).take k) with
      | some vs => bif Nat.beq vs.length k then okR (mkAgg vs) else none
      | none => none
    | .obox cs, some false, _ => match cs[j]? with
      | some c => match cellAV u j c with
        | some v => okR v
        | none => none
      | none => none
    | _, _, _ => none
  | .eref u c sz i j => match sliceAt st u c with
    | some (sz', _, get) => bif Nat.beq sz sz' then dR (partF P t (get i).cells j) else none
    | none => none
  | .d (.ptr cs j) => dR (partF P t cs j)
  | _ => none

def fieldAddrF (P : Program) (s : TypeId) (x : AV) (f : Nat) : Res :=
  match fieldOf P s f with
  | some f => match szT P f.type with
    | some (_ + 1) => match x with
      | .ref u j => okR (.ref u (j + f.offset))
      | .eref u c sz i j => okR (.eref u c sz i (j + f.offset))
      | .d (.ptr cs j) => okR (.d (.ptr cs (j + f.offset)))
      | _ => none
    | _ => none
  | none => none

def indexAddrF (P : Program) (st : St) (t : TypeId) (x i : AV) : Res :=
  match i with
  | .d (.int _ m) => match P.underlying t, x with
    | some (.slice e), .bor u c => match sliceAt st u c, szT P e with
      | some (sz, n, _), some k => bif Nat.beq sz k then ifR (0 ≤ m ∧ m < n) (.eref u c sz m.toNat 0) else none
      | _, _ => none
    | some (.slice e), .d (.dat sz n get) => match szT P e with
      | some k => bif Nat.beq sz k then ifR (0 ≤ m ∧ m < n) (.d (.ptr (get m.toNat).cells 0)) else none
      | none => none
    | some (.array n e), .ref u j => match szT P e with
      | some k => ifR (0 ≤ m ∧ m < n) (.ref u (j + m.toNat * k))
      | none => none
    | some (.array n e), .d (.ptr cs j) => match szT P e with
      | some k => ifR (0 ≤ m ∧ m < n) (.d (.ptr cs (j + m.toNat * k)))
      | none => none
    | _, _ => none
  | _ => none

def indexF (P : Program) (t : TypeId) (x i : AV) : Res :=
  match i with
  | .d (.int _ m) => match P.underlying t, x with
    | some .string, .d (.str s) => ifR (0 ≤ m ∧ m < s.size) (.d (.int .u8 (byteAt s m)))
    | some (.array n e), .d (.agg cs) => match szT P e with
      | some k => dIfR (0 ≤ m ∧ m < n) (partF P e cs (m.toNat * k))
      | none => none
    | _, _ => none
  | _ => none

def fieldF (P : Program) (s : TypeId) (x : AV) (f : Nat) : Res :=
  match fieldOf P s f, x with
  | some f, .d (.agg cs) => dR (partF P f.type cs f.offset)
  | _, _ => none

def lookupF (P : Program) (st : St) (t : TypeId) (x i : AV) (ok : Bool) : Res :=
  match P.underlying t, i with
  | some (.map kt e), .d (.int k m) => match P.underlying kt, zeroD P e with
    | some (.int k1), some z => match x with
      | .bor u c => match mapAt st u c with
        | some (k2, look) => bif kindEq k k2 && kindEq k k1 then
            match look m with
            | some d => okR (.d (bif ok then .tup [d, .bool true] else d))
            | none => okR (.d (bif ok then .tup [z, .bool false] else z))
          else none
        | none => none
      | .d .nilm => bif kindEq k k1 then okR (.d (bif ok then .tup [z, .bool false] else z)) else none
      | _ => none
    | _, _ => none
  | _, _ => none

def extractF (x : AV) (i : Nat) : Res :=
  match x with
  | .d (.tup ds) => dR ds[i]?
  | .tup vs => match vs[i]? with
    | some v => okR v
    | none => none
  | _ => none

def buildF (P : Program) (N : Nat) (st : St) (t : TypeId) (parts : List (Nat × Operand)) : Res :=
  match zeroD P t, placeOf P t, partDs N st parts with
  | some (.agg z), some pl, some ds => match fillD pl z ds with
    | some cs => okR (.d (.agg cs))
    | none => none
  | _, _, _ => none

def buildSliceF (P : Program) (N : Nat) (st : St) (t : TypeId) (n : Nat) (parts : List (Nat × Operand)) : Res :=
  match sliceElem P t with
  | some e => match zeroD P e, partDs N st parts, szT P e with
    | some z, some ds, some k => bif Nat.beq z.cells.length k && (Nat.ble (n * k) 16777216 && allOne z.cells) then
        match fillD (fun i => some (i * k, k)) (zeros n z.cells) ds with
        | some cs => okR (.own k n (chunk (isAggD z) k cs))
        | none => none
      else none
    | _, _, _ => none
  | none => none

def foldR (f : Int → Int → Int) : List AV → Res
  | .d (.int k a) :: r => match foldInts f k a r with
    | some m => okR (.d (.int k m))
    | none => none
  | _ => none

def allocF (P : Program) (t : TypeId) : Res :=
  match zeroD P t with
  | some z => bif z.good then okR (.obox (z.cells.map .d)) else none
  | none => none

def nilF (x : AV) : Res :=
  match x with
  | .ref u j => okR (.ref u j)
  | .eref u c sz i j => okR (.eref u c sz i j)
  | .d (.ptr cs j) => okR (.d (.ptr cs j))
  | .d (.fn f) => okR (.d (.fn f))
  | .clo f cs => okR (.clo f cs)
  | _ => none

def convF (P : Program) (s d : TypeId) (x : AV) : Res :=
  match P.underlying s, P.underlying d, x with
  | some (.int _), some (.int k), .d (.int _ n) => okR (.d (.int k (k.wrap n)))
  | some .string, some .string, .d (.str s) => okR (.d (.str s))
  | _, _, _ => none

def isU8 : D → Bool
  | .int .u8 _ => true
  | _ => false

def numOf : D → Int
  | .int _ x => x
  | _ => 0

/-- bytes as a string -/
def bytesStr (n : Nat) (get : Nat → D) : ByteArray := strOfNums ((List.range n).map fun i => numOf (get i))

def srcBytes (st : St) : AV → Option (Nat × Nat × (Nat → D))
  | .d (.dat sz n get) => some (sz, n, get)
  | .bor u c => sliceAt st u c
  | _ => none

def convB (P : Program) (st : St) (s d : TypeId) (x : AV) : Res :=
  match P.underlying s, P.underlying d with
  | some (.slice e), some .string => match P.underlying e, srcBytes st x with
    | some (.int .u8), some (sz, n, get) => bif Nat.beq sz 1 then ifR (∀ i, i < n → isU8 (get i) = true) (.d (.str (bytesStr n get))) else none
    | _, _ => none
  | _, _ => convF P s d x

def ifcF (P : Program) (t : TypeId) (x : AV) : Res :=
  match P.underlying t, x with
  | some (.interface _), _ => none
  | some _, .d x => okR (.d (.ifc t x))
  | _, _ => none

def mapF (P : Program) (t : TypeId) : Res :=
  match P.underlying t with
  | some (.map k _) => match P.underlying k with
    | some (.int k) => okR (.imap k (fun _ => none))
    | _ => none
  | _ => none

def evs (N : Nat) (st : St) : List Operand → List AV
  | [] => []
  | x :: r => ev N st x :: evs N st r

/-- operations that change nothing but their own slot -/
def quiet (P : Program) (N : Nat) (st : St) (op : Op) : Res :=
  match op with
  | .move x => okR (ev N st x)
  | .pick c a b => pickF (ev N st c) (ev N st a) (ev N st b)
  | .alloc t => allocF P t
  | .build t parts => buildF P N st t parts.toList
  | .buildSlice t n parts => buildSliceF P N st t n parts.toList
  | .load t x => loadF P st t (ev N st x)
  | .nilCheck x => nilF (ev N st x)
  | .binOp op t x y _ => binF P st op t (ev N st x) (ev N st y)
  | .unOp op _ x => unF op (ev N st x)
  | .convert s d x => convB P st s d (ev N st x)
  | .makeInterface t x => ifcF P t (ev N st x)
  | .makeFunc (.func f) first caps => match first.toList with
    | [] => okR (.clo f (evs N st caps.toList))
    | _ => none
  | .makeMap t none => mapF P t
  | .slice t x lo hi none => sliceF P t (ev N st x) (bound N st 0 lo) (fun n => bound N st n hi)
  | .fieldAddr s x f => fieldAddrF P s (ev N st x) f
  | .field s x f => fieldF P s (ev N st x) f
  | .indexAddr t x i => indexAddrF P st t (ev N st x) (ev N st i)
  | .index t x i => indexF P t (ev N st x) (ev N st i)
  | .lookup t x i ok => lookupF P st t (ev N st x) (ev N st i) ok
  | .extract x i => extractF (ev N st x) i
  | .call c => match c.callee with
    | .builtin .len => match c.args.toList, c.argTypes.toList with
      | [x], [t] => lenF P st t (ev N st x)
      | _, _ => none
    | .builtin .min => foldR minI (evs N st c.args.toList)
    | .builtin .max => foldR maxI (evs N st c.args.toList)
    | _ => none
  | _ => none

end AM

/- AM: the conditions of code: what acts; regions; code; functions. -/
namespace AM
open Go

def ceq : Option Nat → Option Nat → Bool
  | none, none => true
  | some a, some b => Nat.beq a b
  | _, _ => false

/-! a slice stays ar it is from now on: its aliases are data -/
mutual
def thawV (t : Nat) (c : Option Nat) (sz n : Nat) (get : Nat → D) : AV → AV
  | .bor u c' => bif Nat.beq u t && ceq c' c then .d (.dat sz n get) else .bor u c'
  | .eref u c' sz' i j => bif Nat.beq u t && ceq c' c then .d .und else .eref u c' sz' i j
  | .agg vs => .agg (thawVs t c sz n get vs)
  | .tup vs => .tup (thawVs t c sz n get vs)
  | .clo f vs => .clo f (thawVs t c sz n get vs)
  | v => v
def thawVs (t : Nat) (c : Option Nat) (sz n : Nat) (get : Nat → D) : List AV → List AV
  | [] => []
  | v :: r => thawV t c sz n get v :: thawVs t c sz n get r
end

def thaw (t : Nat) (c : Option Nat) (sz n : Nat) (get : Nat → D) (st : St) : St := fun u => thawV t c sz n get (st u)

/-- an owning place has something else -/
def setAt (st : St) (t : Nat) (c : Option Nat) (v : AV) : St :=
  match c with
  | none => upd t v st
  | some j => match st t with
    | .obox cs => upd t (.obox (cs.set j v)) st
    | _ => st

def freeze (st : St) (t : Nat) (c : Option Nat) (sz n : Nat) (get : Nat → D) : St :=
  setAt (thaw t c sz n get st) t c (.d (.dat sz n get))

mutual
def toData (st : St) : AV → Option (D × St)
  | .d x => some (x, st)
  | .bor t c => match sliceAt st t c with
    | some (sz, n, get) => some (.dat sz n get, freeze st t c sz n get)
    | none => none
  | .agg vs => match toDatas st vs with
    | some (ds, st') => some (.agg ds, st')
    | none => none
  | .tup vs => match toDatas st vs with
    | some (ds, st') => some (.tup ds, st')
    | none => none
  | _ => none
def toDatas (st : St) : List AV → Option (List D × St)
  | [] => some ([], st)
  | v :: r => match toData st v with
    | some (d, st') => match toDatas st' r with
      | some (ds, st'') => some (d :: ds, st'')
      | none => none
    | none => none
end

/- aliases of what lies in a cell of a box are struck -/
mutual
def AV.saysAt (t j : Nat) : AV → Bool
  | .eref u c _ _ _ => Nat.beq u t && ceq c (some j)
  | .bor u c => Nat.beq u t && ceq c (some j)
  | .agg vs => saysAnyAt t j vs
  | .tup vs => saysAnyAt t j vs
  | .clo _ vs => saysAnyAt t j vs
  | _ => false
def saysAnyAt (t j : Nat) : List AV → Bool
  | [] => false
  | v :: r => v.saysAt t j || saysAnyAt t j r
end

def killAt (t j : Nat) (st : St) : St := fun u => bif (st u).saysAt t j then .d .und else st u

/- aliases of what lies in any cell of a box are struck -/
mutual
def AV.saysIn (t : Nat) : AV → Bool
  | .eref u (some _) _ _ _ => Nat.beq u t
  | .bor u (some _) => Nat.beq u t
  | .agg vs => saysAnyIn t vs
  | .tup vs => saysAnyIn t vs
  | .clo _ vs => saysAnyIn t vs
  | _ => false
def saysAnyIn (t : Nat) : List AV → Bool
  | [] => false
  | v :: r => v.saysIn t || saysAnyIn t r
end

def killInV (t : Nat) : AV → AV
  | .d x => .d x
  | .own sz n get => .own sz n get
  | .imap k look => .imap k look
  | .obox cs => .obox cs
  | .ref u j => .ref u j
  | .eref u none sz i j => .eref u none sz i j
  | .eref u (some c) sz i j => bif Nat.beq u t then .d .und else .eref u (some c) sz i j
  | .bor u none => .bor u none
  | .bor u (some c) => bif Nat.beq u t then .d .und else .bor u (some c)
  | .agg vs => bif saysAnyIn t vs then .d .und else .agg vs
  | .tup vs => bif saysAnyIn t vs then .d .und else .tup vs
  | .clo f vs => bif saysAnyIn t vs then .d .und else .clo f vs

def killIn (t : Nat) (st : St) : St := fun u => killInV t (st u)

/-! values laid bare -/
def forceN (n : Nat) (K : Nat → Prop) : Prop :=
  match n with
  | 0 => K 0
  | m + 1 => K (Nat.succ m)

def forceD1 (d : D) (K : D → Prop) : Prop :=
  match d with
  | .und => K .und
  | .int k n => K (.int k n)
  | .bool b => K (.bool b)
  | .str s => K (.str s)
  | .nilp => K .nilp
  | .nils => K .nils
  | .nilm => K .nilm
  | .nilf => K .nilf
  | .nili => K .nili
  | .fn f => K (.fn f)
  | .ifc t v => K (.ifc t v)
  | .agg cs => K (.agg cs)
  | .tup vs => K (.tup vs)
  | .dat sz n get => K (.dat sz n get)
  | .ptr cs j => K (.ptr cs j)

def forceDs : List D → (List D → Prop) → Prop
  | [], K => K []
  | d :: r, K => forceD1 d fun d => forceDs r fun r => K (d :: r)

def forceD (d : D) (K : D → Prop) : Prop :=
  match d with
  | .und => K .und
  | .int k n => K (.int k n)
  | .bool b => K (.bool b)
  | .str s => K (.str s)
  | .nilp => K .nilp
  | .nils => K .nils
  | .nilm => K .nilm
  | .nilf => K .nilf
  | .nili => K .nili
  | .fn f => K (.fn f)
  | .ifc t v => K (.ifc t v)
  | .agg cs => forceDs cs fun cs => K (.agg cs)
  | .tup vs => forceDs vs fun vs => K (.tup vs)
  | .dat sz n get => K (.dat sz n get)
  | .ptr cs j => forceDs cs fun cs => forceN j fun j => K (.ptr cs j)

def forceA1 (v : AV) (K : AV → Prop) : Prop :=
  match v with
  | .d x => forceD x fun x => K (.d x)
  | .own sz n get => K (.own sz n get)
  | .imap k look => K (.imap k look)
  | .obox cs => K (.obox cs)
  | .ref t j => forceN j fun j => K (.ref t j)
  | .eref t c sz i j => forceN j fun j => K (.eref t c sz i j)
  | .bor t c => K (.bor t c)
  | .agg vs => K (.agg vs)
  | .tup vs => K (.tup vs)
  | .clo f caps => K (.clo f caps)

def forceAs : List AV → (List AV → Prop) → Prop
  | [], K => K []
  | d :: r, K => forceA1 d fun d => forceAs r fun r => K (d :: r)

def forceA (v : AV) (K : AV → Prop) : Prop :=
  match v with
  | .d x => forceD x fun x => K (.d x)
  | .own sz n get => forceN sz fun sz => K (.own sz n get)
  | .imap k look => K (.imap k look)
  | .obox cs => forceAs cs fun cs => K (.obox cs)
  | .ref t j => forceN j fun j => K (.ref t j)
  | .eref t c sz i j => forceN j fun j => K (.eref t c sz i j)
  | .bor t c => K (.bor t c)
  | .agg vs => forceAs vs fun vs => K (.agg vs)
  | .tup vs => forceAs vs fun vs => K (.tup vs)
  | .clo f caps => forceAs caps fun caps => K (.clo f caps)

theorem forceN_eq (n : Nat) (K : Nat → Prop) : forceN n K = K n := by cases n <;> rfl
theorem forceD1_eq (d : D) (K : D → Prop) : forceD1 d K = K d := by cases d <;> rfl
theorem forceDs_eq : ∀ (l : List D) (K : List D → Prop), forceDs l K = K l
  | [], K => rfl
  | d :: r, K => by simp only [forceDs, forceD1_eq, forceDs_eq r]
theorem forceD_eq (d : D) (K : D → Prop) : forceD d K = K d := by cases d <;> simp only [forceD, forceDs_eq, forceN_eq]
theorem forceA1_eq (v : AV) (K : AV → Prop) : forceA1 v K = K v := by cases v <;> simp only [forceA1, forceD_eq, forceN_eq]
theorem forceAs_eq : ∀ (l : List AV) (K : List AV → Prop), forceAs l K = K l
  | [], K => rfl
  | d :: r, K => by simp only [forceAs, forceA1_eq, forceAs_eq r]
theorem forceA_eq (v : AV) (K : AV → Prop) : forceA v K = K v := by cases v <;> simp only [forceA, forceD_eq, forceN_eq, forceAs_eq]

/-- the slots that are kept, laid bare -/
def normK : List Nat → St → List (Nat × AV) → (St → Prop) → Prop
  | [], _, acc, K => K (ofL acc)
  | u :: r, st, acc, K => forceA (st u) fun v => normK r st ((u, v) :: acc) K

/-- the value of an operation in its slot -/
def place0 (N : Nat) (st : St) (dst : Option Nat) (v : AV) (K : St → Prop) : Prop :=
  match dst with
  | none => K st
  | some t => bif Nat.blt t N then
      match v with
      | .own sz n get => K (St.own st t (.own sz n get))
      | .imap k look => K (St.own st t (.imap k look))
      | .obox cs => K (St.own st t (.obox cs))
      | v => K (upd t v st)
    else False

def placeK (N : Nat) (st : St) (dst : Option Nat) (v : AV) (K : St → Prop) : Prop := forceA v fun v => place0 N st dst v K

theorem placeK_eq (N : Nat) (st : St) (dst : Option Nat) (v : AV) (K : St → Prop) : placeK N st dst v K = place0 N st dst v K := by unfold placeK; rw [forceA_eq]

def appGet (n : Nat) (f g : Nat → D) (i : Nat) : D := bif Nat.blt i n then f i else g (i - n)

def bytesOfStr (s : ByteArray) (i : Nat) : D := .int .u8 (byteAt s i)

/-- what is appended (its elements have so many cells): how many, and which -/
def srcOf (st : St) (k : Nat) : AV → Option (Nat × (Nat → D))
  | .d (.dat sz n get) => bif Nat.beq sz k then some (n, get) else none
  | .d .nils => some (0, fun _ => .und)
  | .d (.str s) => bif Nat.beq 1 k then some (s.size, bytesOfStr s) else none
  | .bor t c => match sliceAt st t c with
    | some (sz, n, get) => bif Nat.beq sz k then some (n, get) else none
    | none => none
  | _ => none

/-- an element type's cells, bytes -/
def elemT (P : Program) (t : TypeId) : Option (Nat × Nat) :=
  match sliceElem P t with
  | some e => match P.info? e with
    | some i => match i.zero with
      | some v => match ofValue v with
        | some z => bif Nat.beq z.cells.length i.size && (Nat.ble 1 i.bytes && allOne z.cells) then some (i.size, i.bytes) else none
        | none => none
      | none => none
    | none => none
  | none => none

def notInt (P : Program) (t : TypeId) : Bool :=
  match P.underlying t with
  | some (.int _) => false
  | some _ => true
  | none => false

/-- what an append comes to: a condition, the slice, the place whose owner it takes -/
def appendV (P : Program) (st : St) (t t2 : TypeId) (x y : AV) : Option (Prop × AV × Option (Nat × Option Nat)) :=
  match notInt P t2, elemT P t with
  | true, some (k, bytes) => match srcOf st k y with
    | some (m, g) => match x with
      | .d .nils => some (m * bytes ≤ 140737488355328, cond (Nat.beq m 0) (.d .nils) (.own k m g), none)
      | .bor u c => match sliceAt st u c with
        | some (sz, n, f) => bif Nat.beq sz k then some ((n + m) * bytes ≤ 140737488355328, .own sz (n + m) (appGet n f g), some (u, c)) else none
        | none => none
      | _ => none
    | none => none
  | _, _ => none

def consume (st : St) : Option (Nat × Option Nat) → St
  | none => st
  | some (u, c) => setAt st u c (.d .und)

def appendK (P : Program) (N : Nat) (st : St) (t t2 : TypeId) (x y : AV) (dst : Option Nat) (K : St → Prop) : Prop :=
  match appendV P st t t2 x y with
  | some (c, v, how) => c ∧ placeK N (consume st how) dst v K
  | none => False

def updGet (f : Nat → D) (i : Nat) (d : D) (k : Nat) : D := bif Nat.beq k i then d else f k
def updMap (f : Int → Option D) (i : Int) (d : D) (k : Int) : Option D := bif decide (k = i) then some d else f k

def reAgg (agg : Bool) (cs : List D) : D := bif agg then .agg cs else one1 (nth .und cs 0)

def szIs (P : Program) (t : TypeId) (n : Nat) : Bool :=
  match szT P t with
  | some k => Nat.beq n k
  | none => false

/-- a type of one cell -/
def oneT (P : Program) (t : TypeId) : Bool :=
  match aggT P t, szT P t with
  | some false, some 1 => true
  | _, _ => false

def storeK (P : Program) (N : Nat) (st : St) (t : TypeId) (a v : AV) (K : St → Prop) : Prop :=
  match a with
  | .ref u j => match v with
    | .bor s none => bif Nat.blt s N && (!(Nat.beq s u)) && oneT P t then
        match st u, st s with
        | .obox cs, .own sz n get => bif Nat.blt j cs.length then K (upd u (.obox (cs.set j (.own sz n get))) (upd s (.bor u (some j)) (killAt u j st))) else False
        | .obox cs, .imap k look => bif Nat.blt j cs.length then K (upd u (.obox (cs.set j (.imap k look))) (upd s (.bor u (some j)) (killAt u j st))) else False
        | _, _ => False
      else False
    | v => match toData st v with
      | some (d, st1) => match st1 u with
        | .obox cs => bif szIs P t d.cells.length && (allOne d.cells && (Nat.ble 1 d.cells.length && Nat.ble (j + d.cells.length) cs.length)) then K (upd u (.obox (setD cs j d.cells)) st1) else False
        | _ => False
      | none => False
  | .eref u c sz i j => match toData st v with
    | some (d, st1) => match sliceAt st1 u c with
      | some (sz', n, get) => bif Nat.beq sz sz' && (szIs P t d.cells.length && (allOne d.cells && Nat.ble (j + d.cells.length) (get i).cells.length)) then
          K (setAt st1 u c (.own sz' n (updGet get i (reAgg (isAggD (get i)) (setDs (get i).cells j d.cells)))))
        else False
      | none => False
    | none => False
  | _ => False

/-! calls -/
inductive Arg where
  | d (x : D)
  | box (cs : List AV) (j : Nat)

inductive Out where
  | ret (r : AV) (outs : List AV)
  | pan (v : D) (outs : List AV)

def argOwn : Arg → AV
  | .d _ => .d .und
  | .box cs _ => .obox cs

def argAV (k : Nat) : Arg → AV
  | .d x => .d x
  | .box _ j => .ref k j

/-- the arguments' own places, from a number on -/
def ownSt : Nat → List AV → St
  | _, [] => fun _ => .d .und
  | k, v :: r => upd k v (ownSt (k + 1) r)

def stA (ar : List Arg) : St := ownSt 0 (ar.map argOwn)

def AV.closed : AV → Bool
  | .d _ => true
  | .own _ _ _ => true
  | .imap _ _ => true
  | .obox _ => true
  | _ => false

def ArgsV (g : G) (w : World) (ar : List Arg) (vs : List Value) : Prop :=
  vs.length = ar.length ∧ ∀ (k : Nat) (a : Arg) (v : Value), ar[k]? = some a → vs[k]? = some v → ValR g w (argAV k a) v

def noAct : Act := { tmps := #[], defers := [] }

/-- the places of a call's outcome -/
def stO (ar : List Arg) (r : AV) (outs : List AV) : St := upd ar.length r (ownSt 0 outs)

def OutOk (w : World) (g : G) (L : Nat → Prop) (ar : List Arg) (e : Ending) (w' : World) : Out → Prop
  | .ret r outs => outs.length = ar.length ∧ r.closed = true ∧ ∃ g' : G, e = .returned (g'.val ar.length none) ∧ Sat ⟨w, L, g.I, 0, noFix⟩ g' (stO ar r outs) noAct w' ∧
      ∀ k cs, outs[k]? = some (.obox cs) → g'.val k none = g.val k none
  | .pan d outs => outs.length = ar.length ∧ ∃ (g' : G) (v : Value), e = .panicked [{ v, recovered := false }] ∧ DRel g'.I w' d v ∧ Sat ⟨w, L, g.I, 0, noFix⟩ g' (stO ar (.d .und) outs) noAct w' ∧
      ∀ k cs, outs[k]? = some (.obox cs) → g'.val k none = g.val k none

/-- WHAT A FUNCTION DOES: called with such arguments, in whatever world, it comes to one of such outcomes -/
def Spec (P : Program) (f : FuncId) (ar : List Arg) (post : Out → Prop) : Prop :=
  (∀ (args : Array Value) (w : World), (callFunc f args).run P w = .ok (.enter f args) w) ∧
  ∀ (w : World) (g : G) (L : Nat → Prop) (vs : List Value), Sat ⟨w, L, g.I, 0, noFix⟩ g (stA ar) noAct w → ArgsV g w ar vs →
    Calls P f ⟨vs⟩ w fun e w' => ∃ o, post o ∧ OutOk w g L ar e w' o

/-- arguments ar data, or ar boxes that are lent: the slots of these -/
def lend (st : St) : List AV → Option (List (D × Option (Nat × Nat)) × St)
  | [] => some ([], st)
  | .ref t j :: r => match lend st r with
    | some (l, st') => some ((.und, some (t, j)) :: l, st')
    | none => none
  | v :: r => match toData st v with
    | some (d, st') => match lend st' r with
      | some (l, st'') => some ((d, none) :: l, st'')
      | none => none
    | none => none

def argsOf (st : St) : List (D × Option (Nat × Nat)) → Option (List Arg)
  | [] => some []
  | (d, none) :: r => match argsOf st r with
    | some ar => some (.d d :: ar)
    | none => none
  | (_, some (t, j)) :: r => match st t, argsOf st r with
    | .obox cs, some ar => some (.box cs j :: ar)
    | _, _ => none

def lentOf : List (D × Option (Nat × Nat)) → List Nat
  | [] => []
  | (_, none) :: r => lentOf r
  | (_, some (t, _)) :: r => t :: lentOf r

def allNe (t : Nat) : List Nat → Bool
  | [] => true
  | u :: r => (!(Nat.beq u t)) && allNe t r

def apartB : List Nat → Bool
  | [] => true
  | t :: r => allNe t r && apartB r

/-- the boxes that were lent come back -/
def back (st : St) : List (D × Option (Nat × Nat)) → List AV → Option St
  | [], [] => some st
  | (_, none) :: r, _ :: os => back st r os
  | (_, some (t, _)) :: r, .obox cs :: os => match back st r os with
    | some st' => some (upd t (.obox cs) (killIn t st'))
    | none => none
  | _, _ => none

structure Ks where
  norm : St → Prop
  ret : St → Prop
  exit : Nat → St → Prop
  pan : D → St → Prop

/-- the callee and what it captured -/
def calleeOf : AV → Option (Nat × List AV)
  | .d (.fn f) => some (f, [])
  | .clo f caps => some (f, caps)
  | _ => none

def outK (N : Nat) (st : St) (l : List (D × Option (Nat × Nat))) (dst : Option Nat) (K : St → Prop) (Kp : D → St → Prop) : Out → Prop
  | .ret r outs => match back st l outs with
    | some st' => placeK N st' dst r K
    | none => False
  | .pan d outs => match back st l outs with
    | some st' => Kp d st'
    | none => False

def callK (P : Program) (N : Nat) (st : St) (f : AV) (vs : List AV) (dst : Option Nat) (K : St → Prop) (Kp : D → St → Prop) : Prop :=
  match calleeOf f with
  | some (f, caps) => match lend st (vs ++ caps) with
    | some (l, st1) => match argsOf st1 l with
      | some ar => bif apartB (lentOf l) then
          ∃ post, Spec P f ar post ∧ (∃ o, post o) ∧ ∀ o, post o → outK N st1 l dst K Kp o
        else False
      | none => False
    | none => False
  | none => False

def resK (N : Nat) (st : St) (dst : Option Nat) (K : St → Prop) : Res → Prop
  | some (none, v) => placeK N st dst v K
  | some (some c, v) => c ∧ placeK N st dst v K
  | none => False

def assignK (N : Nat) (st : St) (v : AV) (dst : Option Nat) (K : St → Prop) : Prop :=
  match v, dst with
  | .bor t none, some d => bif Nat.beq t d then bif (st t).owns && Nat.blt t N then K st else False else
      bif Nat.blt t N && Nat.blt d N then match st t with
        | .own sz n get => K (upd d (.own sz n get) (upd t (.bor d none) (kill d st)))
        | .imap k look => K (upd d (.imap k look) (upd t (.bor d none) (kill d st)))
        | _ => placeK N st dst v K
      else placeK N st dst v K
  | v, dst => placeK N st dst v K

def boxK (N : Nat) (st : St) (v : AV) (dst : Option Nat) (K : St → Prop) : Prop :=
  match toData st v with
  | some (x, st1) => bif x.good then placeK N st1 dst (.obox (x.cells.map .d)) K else False
  | none => False

def mapUpdK (P : Program) (st : St) (t : TypeId) (m k v : AV) (K : St → Prop) : Prop :=
  match P.underlying t, m, k, toData st v with
  | some (.map kt _), .bor u c, .d (.int k1 i), some (d, st1) => match mapAt st1 u c, P.underlying kt with
    | some (k2, look), some (.int k3) => bif kindEq k1 k2 && kindEq k1 k3 then K (setAt st1 u c (.imap k2 (updMap look i d))) else False
    | _, _ => False
  | _, _, _, _ => False

/-- a map is asked: what it has is laid open -/
def lookupC (P : Program) (t : TypeId) (k k2 : IntKind) (r : Option D) (ok : Bool) : Res :=
  match P.underlying t with
  | some (.map kt e) => match P.underlying kt, zeroD P e with
    | some (.int k1), some z => bif kindEq k k2 && kindEq k k1 then
        match r with
        | some d => okR (.d (bif ok then .tup [d, .bool true] else d))
        | none => okR (.d (bif ok then .tup [z, .bool false] else z))
      else none
    | _, _ => none
  | _ => none

def lookK (P : Program) (N : Nat) (st : St) (t : TypeId) (m i : Operand) (ok : Bool) (dst : Option Nat) (K : St → Prop) : Prop :=
  match ev N st m, ev N st i with
  | .bor u c, .d (.int k n) => match mapAt st u c with
    | some (k2, look) => ∃ r, look n = r ∧ resK N st dst K (lookupC P t k k2 r ok)
    | none => False
  | _, _ => resK N st dst K (quiet P N st (.lookup t m i ok))

theorem lookupC_eq (P : Program) (st : St) (t : TypeId) (u : Nat) (c : Option Nat) (k : IntKind) (n : Int) (ok : Bool) {k2 : IntKind} {look : Int → Option D} (h : mapAt st u c = some (k2, look)) :
    lookupF P st t (.bor u c) (.d (.int k n)) ok = lookupC P t k k2 (look n) ok := by
  unfold lookupF lookupC
  cases P.underlying t with
  | none => rfl
  | some d =>
    cases d <;> first | rfl | skip
    rename_i kt e
    dsimp only
    cases P.underlying kt with
    | none => rfl
    | some d2 =>
      cases d2 <;> cases zeroD P e <;> first | rfl | (simp only [h]; rfl) | simp only [h]

/-- what goes into a whole is data from now on -/
def freezeOps (N : Nat) : List Operand → St → St
  | [], st => st
  | x :: r, st => freezeOps N r (match toData st (ev N st x) with
    | some (_, st1) => st1
    | none => st)

/-- is a slice of data nil? only one without elements may be -/
def eqNil (P : Program) (op : BinOp) (t : TypeId) (x y : AV) : Option (Nat × Bool) :=
  match op, y, x, P.underlying t with
  | .eql, .d .nils, .d (.dat _ n _), some (.slice _) => some (n, true)
  | .neq, .d .nils, .d (.dat _ n _), some (.slice _) => some (n, false)
  | _, _, _, _ => none

/-- an operation: all that it may do -/
def opK (P : Program) (N : Nat) (st : St) (op : Op) (dst : Option Nat) (K : St → Prop) (Kp : D → St → Prop) : Prop :=
  match op with
  | .assign x => assignK N st (ev N st x) dst K
  | .box _ x => boxK N st (ev N st x) dst K
  | .store t a x => match dst with
    | none => storeK P N st t (ev N st a) (ev N st x) K
    | some _ => False
  | .mapUpdate t m k x => match dst with
    | none => mapUpdK P st t (ev N st m) (ev N st k) (ev N st x) K
    | some _ => False
  | .insert t m k x => match dst with
    | none => mapUpdK P st t (ev N st m) (ev N st k) (ev N st x) K
    | some _ => False
  | .lookup t m i ok => lookK P N st t m i ok dst K
  | .buildSlice t n parts => (fun st1 => resK N st1 dst K (quiet P N st1 (.buildSlice t n parts))) (freezeOps N (parts.toList.map (·.2)) st)
  | .build t parts => (fun st1 => resK N st1 dst K (quiet P N st1 (.build t parts))) (freezeOps N (parts.toList.map (·.2)) st)
  | .binOp op t x y u => match eqNil P op t (ev N st x) (ev N st y) with
    | some (n, b) => placeK N st dst (.d (.bool (!b))) K ∧ (n = 0 → placeK N st dst (.d (.bool b)) K)
    | none => resK N st dst K (quiet P N st (.binOp op t x y u))
  | .panic x => match ev N st x with
    | .d (.ifc t d) => Kp (.ifc t d) st
    | _ => False
  | .call c => match c.callee with
    | .value f => callK P N st (ev N st f) (evs N st c.args.toList) dst K Kp
    | .builtin .append => match c.args.toList, c.argTypes.toList with
      | [x, y], [t, t2] => appendK P N st t t2 (ev N st x) (ev N st y) dst K
      | _, _ => False
    | _ => resK N st dst K (quiet P N st (.call c))
  | op => resK N st dst K (quiet P N st op)

/-! regions -/
/-- a guarded operation is done, or not, by what the guard has -/
def guardK (N : Nat) (ops : List Oper) (st : St) (o : Oper) (yes no : St → Prop) : Prop :=
  match o.guard with
  | none => yes st
  | some (g, want) => match ops[g]? with
    | some og => match og.dst with
      | some t => bif Nat.blt t N then
        match st t with
        | .d (.bool b) => cond b (cond want (yes (upd t (.d (.bool true)) st)) (no (upd t (.d (.bool true)) st)))
                                 (cond want (no (upd t (.d (.bool false)) st)) (yes (upd t (.d (.bool false)) st)))
        | .d (.tup []) => no st
        | _ => False
        else False
      | none => False
    | none => False

def skipK (N : Nat) (st : St) (dst : Option Nat) (K : St → Prop) : Prop :=
  match dst with
  | none => K st
  | some t => bif Nat.blt t N then K (upd t (.d (.tup [])) st) else False

def textK (P : Program) (N : Nat) (ops : List Oper) : List Oper → St → (St → Prop) → (D → St → Prop) → Prop
  | [], st, K, _ => K st
  | o :: r, st, K, Kp => guardK N ops st o (fun st => opK P N st o.op o.dst (fun st => textK P N ops r st K Kp) Kp)
      (fun st => skipK N st o.dst (fun st => textK P N ops r st K Kp))

end AM

/- AM: the conditions of code: control. -/
namespace AM
open Go

/- what a slot must have says no more than what it has -/
mutual
def leD (x y : D) : Prop :=
  match x with
  | .und => True
  | .dat sz n get => (∃ get', y = .dat sz n get' ∧ ∀ i, i < n → leD (get i) (get' i) ∧ (get i).cells.length = (get' i).cells.length) ∨ (y = .nils ∧ n = 0)
  | .agg cs => ∃ cs', y = .agg cs' ∧ leDs cs cs'
  | .tup cs => ∃ cs', y = .tup cs' ∧ leDs cs cs'
  | x => y = x
def leDs (xs ys : List D) : Prop :=
  match xs, ys with
  | [], [] => True
  | x :: r, y :: s => leD x y ∧ leDs r s
  | _, _ => False
end

mutual
theorem leD_refl (x : D) : leD x x := by
  cases x with
  | und => simp only [leD]
  | dat sz n get => simp only [leD]; exact .inl ⟨_, rfl, fun i _ => ⟨leD_refl (get i), rfl⟩⟩
  | agg cs => simp only [leD]; exact ⟨_, rfl, leDs_refl cs⟩
  | tup cs => simp only [leD]; exact ⟨_, rfl, leDs_refl cs⟩
  | _ => simp only [leD]
theorem leDs_refl (xs : List D) : leDs xs xs := by
  cases xs with
  | nil => simp only [leDs]
  | cons x r => simp only [leDs]; exact ⟨leD_refl x, leDs_refl r⟩
end

def leGet (n : Nat) (f g : Nat → D) : Prop := ∀ i, i < n → leD (f i) (g i) ∧ (f i).cells.length = (g i).cells.length

theorem leGet_eq {n : Nat} {f g : Nat → D} (h : ∀ i, i < n → f i = g i) : leGet n f g := fun i hi => by rw [h i hi]; exact ⟨leD_refl _, rfl⟩

def leC (x y : AV) : Prop :=
  match x with
  | .d x => ∃ y', y = .d y' ∧ leD x y'
  | .own sz n get => ∃ get', y = .own sz n get' ∧ leGet n get get'
  | .imap k look => ∃ look', y = .imap k look' ∧ ∀ m, look m = look' m
  | _ => False

def leCs : List AV → List AV → Prop
  | [], _ => True
  | x :: r, y :: s => leC x y ∧ leCs r s
  | _ :: _, [] => False

def leV (x y : AV) : Prop :=
  match x with
  | .d .und => True
  | .d x => ∃ y', y = .d y' ∧ leD x y'
  | .own sz n get => ∃ get', y = .own sz n get' ∧ leGet n get get'
  | .imap k look => ∃ look', y = .imap k look' ∧ ∀ m, look m = look' m
  | .obox cs => ∃ cs', y = .obox cs' ∧ leCs cs cs'
  | x => y = x

def leL : List (Nat × AV) → St → Prop
  | [], _ => True
  | (t, v) :: r, st => leV v (st t) ∧ leL r st

/-! regions that draw their order -/
/-- what is said of an operation: what it waits for; the places that it does not see (those that others write beside it; those that they touch); the places that it touches; does it part all others? -/
structure Row where
  needs : Nat
  hidD : List Nat
  hidT : List Nat
  touch : List Nat
  sync : Bool

def has (m k : Nat) : Bool := Nat.beq (Nat.land (Nat.shiftRight m k) 1) 1

def memB (t : Nat) : List Nat → Bool
  | [] => false
  | u :: r => Nat.beq u t || memB t r

def saysOf : List Nat → AV → Bool
  | [], _ => false
  | t :: r, v => v.says t || saysOf r v

def saysInOf : List Nat → AV → Bool
  | [], _ => false
  | t :: r, v => v.saysIn t || saysInOf r v

def mask0 (r : Row) (v : AV) : AV := bif saysOf r.hidD v || saysInOf r.hidT v then .d .und else v

def maskV (r : Row) : AV → AV
  | .d x => .d x
  | .own sz n get => .own sz n get
  | .imap k look => .imap k look
  | .obox cs => .obox cs
  | .ref u j => mask0 r (.ref u j)
  | .eref u c sz i j => mask0 r (.eref u c sz i j)
  | .bor u c => mask0 r (.bor u c)
  | .agg vs => mask0 r (.agg vs)
  | .tup vs => mask0 r (.tup vs)
  | .clo f vs => mask0 r (.clo f vs)

def mask (r : Row) (st : St) : St := fun u =>
  bif memB u r.hidD || memB u r.hidT then .d .und else maskV r (st u)

theorem saysOf_own : ∀ (l : List Nat) (v : AV), (∀ t, v.says t = false) → saysOf l v = false
  | [], v, _ => rfl
  | t :: r, v, h => by simp only [saysOf, h t, saysOf_own r v h, Bool.or_self]

theorem saysInOf_own : ∀ (l : List Nat) (v : AV), (∀ t, v.saysIn t = false) → saysInOf l v = false
  | [], v, _ => rfl
  | t :: r, v, h => by simp only [saysInOf, h t, saysInOf_own r v h, Bool.or_self]

theorem maskV_eq (r : Row) (v : AV) : maskV r v = bif saysOf r.hidD v || saysInOf r.hidT v then .d .und else v := by
  cases v <;> first | rfl | (rw [saysOf_own _ _ (fun _ => rfl), saysInOf_own _ _ (fun _ => rfl)]; rfl)

theorem mask_eq (r : Row) (st : St) : mask r st = fun u => bif memB u r.hidD || memB u r.hidT then .d .und else bif saysOf r.hidD (st u) || saysInOf r.hidT (st u) then .d .und else st u := by
  funext u; unfold mask; rw [maskV_eq]

def isDst : Option Nat → Nat → Bool
  | none, _ => false
  | some d, u => Nat.beq d u

def saysDst : Option Nat → AV → Bool
  | none, _ => false
  | some d, v => v.says d

def outOf : AV → AV
  | .obox cs => .obox cs
  | _ => .d .und

def lookU (u : Nat) : List (Nat × AV) → AV
  | [] => .d .und
  | (t, v) :: r => bif Nat.beq t u then outOf v else lookU u r

def strike0 (dst : Option Nat) (touch : List Nat) (v : AV) : AV := bif saysDst dst v || saysInOf touch v then .d .und else v

def strikeV (dst : Option Nat) (touch : List Nat) : AV → AV
  | .d x => .d x
  | .own sz n get => .own sz n get
  | .imap k look => .imap k look
  | .obox cs => .obox cs
  | .ref u j => strike0 dst touch (.ref u j)
  | .eref u c sz i j => strike0 dst touch (.eref u c sz i j)
  | .bor u c => strike0 dst touch (.bor u c)
  | .agg vs => strike0 dst touch (.agg vs)
  | .tup vs => strike0 dst touch (.tup vs)
  | .clo f vs => strike0 dst touch (.clo f vs)

theorem strikeV_eq (dst : Option Nat) (touch : List Nat) (v : AV) : strikeV dst touch v = bif saysDst dst v || saysInOf touch v then .d .und else v := by
  cases v <;> first | rfl | (rw [saysInOf_own _ _ (fun _ => rfl)]; cases dst <;> rfl)

def eff (dst : Option Nat) (v : AV) (ups : List (Nat × AV)) (touch : List Nat) (st : St) : St := fun u =>
  bif isDst dst u then v else bif memB u touch then lookU u ups else strikeV dst touch (st u)

theorem eff_eq (dst : Option Nat) (v : AV) (ups : List (Nat × AV)) (touch : List Nat) (st : St) : eff dst v ups touch st = fun u =>
    bif isDst dst u then v else bif memB u touch then lookU u ups else bif saysDst dst (st u) || saysInOf touch (st u) then .d .und else st u := by
  funext u; unfold eff; rw [strikeV_eq]

/-- what an operation does -/
inductive Does where
  | det (c : Option Prop) (v : AV) (ups : List (Nat × AV))
  | call (f : Nat) (ar : List Arg) (l : List (D × Option (Nat × Nat)))
  | bad

def ofRes : Res → Does
  | some (c, v) => .det c v []
  | none => .bad

def lendPure : List AV → Option (List (D × Option (Nat × Nat)))
  | [] => some []
  | .ref t j :: r => match lendPure r with
    | some l => some ((.und, some (t, j)) :: l)
    | none => none
  | .d x :: r => match lendPure r with
    | some l => some ((x, none) :: l)
    | none => none
  | _ => none

def allIn (touch : List Nat) : List Nat → Bool
  | [] => true
  | t :: r => memB t touch && allIn touch r

def doesOf (P : Program) (N : Nat) (touch : List Nat) (st : St) (op : Op) : Does :=
  match op with
  | .call c => match c.callee with
    | .value f => match calleeOf (ev N st f) with
      | some (f, caps) => match lendPure (evs N st c.args.toList ++ caps) with
        | some l => match argsOf st l with
          | some ar => bif apartB (lentOf l) && allIn touch (lentOf l) then .call f ar l else .bad
          | none => .bad
        | none => .bad
      | none => .bad
    | .builtin .append => match c.args.toList, c.argTypes.toList with
      | [x, y], [t, t2] => match appendV P st t t2 (ev N st x) (ev N st y) with
        | some (c, v, none) => .det (some c) v []
        | some (c, v, some (u, none)) => bif memB u touch then .det (some c) v [(u, .d .und)] else .bad
        | _ => .bad
      | _, _ => .bad
    | _ => ofRes (quiet P N st (.call c))
  | op => ofRes (quiet P N st op)

def upsOf : List (D × Option (Nat × Nat)) → List AV → Option (List (Nat × AV))
  | [], [] => some []
  | (_, none) :: r, _ :: os => upsOf r os
  | (_, some (t, _)) :: r, .obox cs :: os => match upsOf r os with
    | some l => some ((t, .obox cs) :: l)
    | none => none
  | _, _ => none

def dstOk (N : Nat) : Option Nat → Bool
  | none => true
  | some d => Nat.blt d N

def condK : Option Prop → Prop → Prop
  | none, K => K
  | some c, K => c ∧ K

/-- the outcomes of what an operation does -/
def doesK (P : Program) (row : Row) (dst : Option Nat) (st : St) (K : St → Prop) : Does → Prop
  | .det c v ups => condK c (forceA v fun v => cond (saysOf row.hidD v || saysInOf row.hidT v) False (K (eff dst v ups row.touch st)))
  | .call f ar l => ∃ post, Spec P f ar post ∧ (∃ o, post o) ∧ ∀ o, post o → match o with
    | .ret r outs => match upsOf l outs with
      | some ups => cond r.closed (K (eff dst r ups row.touch st)) False
      | none => False
    | .pan _ _ => False
  | .bad => False

/-- the guard's answer -/
def guardB (N : Nat) (ops : List Oper) (st : St) (o : Oper) : Option Bool :=
  match o.guard with
  | none => some true
  | some (g, want) => match ops[g]? with
    | some og => match og.dst with
      | some t => bif Nat.blt t N then
        match st t with
        | .d (.bool b) => some (cond b want (not want))
        | .d (.tup []) => some false
        | _ => none
        else none
      | none => none
    | none => none

def guarded (b : Option Bool) (x : Does) : Does :=
  match b with
  | some true => x
  | some false => .det none (.d (.tup [])) []
  | none => .bad

def rowK (P : Program) (N : Nat) (ops : List Oper) (o : Oper) (row : Row) (st : St) (K : St → Prop) : Prop :=
  cond (dstOk N o.dst) (doesK P row o.dst st K (guarded (guardB N ops (mask row st) o) (doesOf P N row.touch (mask row st) o.op))) False

def drawK (P : Program) (N : Nat) (ops : List Oper) (K : St → Prop) (Kp : D → St → Prop) : List (Nat × Oper × Row) → St → Prop
  | [], st => K st
  | (_, o, row) :: r, st => cond row.sync
      (guardK N ops st o (fun st => opK P N st o.op o.dst (fun st => drawK P N ops K Kp r st) Kp) (fun st => skipK N st o.dst (fun st => drawK P N ops K Kp r st)))
      (rowK P N ops o row st (fun st => drawK P N ops K Kp r st))

def rows : Nat → List Oper → List Row → List (Nat × Oper × Row)
  | i, o :: os, r :: rs => (i, o, r) :: rows (i + 1) os rs
  | _, _, _ => []

def isCallOp (o : Oper) : Bool := match o.op with
  | .call c => match c.callee with
    | .value _ => true
    | _ => false
  | _ => false

def bindsNow (e : Edge) : Bool := Region.binds .any e

/-- is k waited for by one of the edges? -/
def viaEdges (tab : List (Nat × Oper × Row)) (k : Nat) : List Edge → Bool
  | [] => false
  | e :: r => (bindsNow e && (Nat.beq e.on k || (match tab[e.on]? with | some (_, _, row) => has row.needs k | none => false))) || viaEdges tab k r

def edgesBack (i : Nat) : List Edge → Bool
  | [] => true
  | e :: r => (!bindsNow e || Nat.blt e.on i) && edgesBack i r

/-- all that is waited for is waited for by the edges -/
def needsOk (tab : List (Nat × Oper × Row)) (i : Nat) (o : Oper) (row : Row) : Nat → Bool
  | 0 => true
  | k + 1 => (!has row.needs k || (Nat.blt k i && viaEdges tab k o.after.toList)) && needsOk tab i o row k

def dstIn : Option Nat → List Nat → Bool
  | none, _ => true
  | some d, l => memB d l

def dstNe : Option Nat → Option Nat → Bool
  | some a, some b => !(Nat.beq a b)
  | _, _ => true

def dstOut : Option Nat → List Nat → Bool
  | none, _ => true
  | some d, l => !(memB d l)

/-- a former and a later one that does not wait for it -/
def pairOk (k i : Nat) (ok oi : Oper) (rk ri : Row) : Bool :=
  has ri.needs k || (!rk.sync && (!ri.sync && (allIn [] ri.touch && (!(isCallOp ok && isCallOp oi) && (dstIn ok.dst ri.hidD && (dstIn oi.dst rk.hidD && (allIn ri.hidT rk.touch && (dstOut oi.dst rk.touch && dstNe oi.dst ok.dst))))))))

def pairsOk (i : Nat) (oi : Oper) (ri : Row) : List (Nat × Oper × Row) → Bool
  | [] => true
  | (k, ok, rk) :: r => (Nat.ble i k || pairOk k i ok oi rk ri) && pairsOk i oi ri r

def tabOkFrom (n : Nat) (tab : List (Nat × Oper × Row)) : List (Nat × Oper × Row) → Bool
  | [] => true
  | (i, o, row) :: r => edgesBack i o.after.toList && (needsOk tab i o row n && (pairsOk i o row tab && tabOkFrom n tab r))

def noSel (o : Oper) : Bool := match o.op with
  | .select _ _ => false
  | _ => true

def noSels : List Oper → Bool
  | [] => true
  | o :: r => noSel o && noSels r

def tabOk (P : Program) (ops : List Oper) (tab : List Row) : Bool :=
  Nat.beq ops.length tab.length && tabOkFrom ops.length (rows 0 ops tab) (rows 0 ops tab)

def vc (P : Program) (N : Nat) (keep : List Nat) : Code → St → Ks → Prop
  | .skip, st, K => K.norm st
  | .label _, st, K => K.norm st
  | .region _ ops draw, st, K => match draw with
    | false => textK P N ops.toList ops.toList st (fun st => normK keep st [] K.norm) K.pan
    | true => ∃ tab, tabOk P ops.toList tab = true ∧ drawK P N ops.toList (fun st => normK keep st [] K.norm) K.pan (rows 0 ops.toList tab) st
  | .seq a b, st, K => vc P N keep a st { K with norm := fun st => vc P N keep b st K }
  | .cond c a b, st, K => match ev N st c with
    | .d (.bool x) => match c with
      | .tmp t => cond x (vc P N keep a (upd t (.d (.bool true)) st) K) (vc P N keep b (upd t (.d (.bool false)) st) K)
      | _ => cond x (vc P N keep a st K) (vc P N keep b st K)
    | _ => False
  | .block id b, st, K => vc P N keep b st { K with exit := fun i st => bif Nat.beq i id then K.norm st else K.exit i st }
  | .loop b, st, K => ∃ (α : Type) (inv : α → List (Nat × AV)) (μ : α → Nat) (x0 : α), leL (inv x0) st ∧
      ∀ x, vc P N keep b (ofL (inv x)) { K with norm := fun st' => ∃ x', μ x' < μ x ∧ leL (inv x') st' }
  | .exit i, st, K => K.exit i st
  | .ret, st, K => K.ret st
  | _, _, _ => False

/-! functions -/
def initSt (N : Nat) : Nat → List Arg → St
  | _, [] => fun _ => .d .und
  | k, .d x :: r => upd k (.d x) (initSt N (k + 1) r)
  | k, .box cs j :: r => upd k (.ref (N + k) j) (upd (N + k) (.obox cs) (initSt N (k + 1) r))

/-- what lies at the places of the arguments -/
def outsOf (N : Nat) (st : St) : Nat → Nat → List AV
  | _, 0 => []
  | k, n + 1 => outOf (st (N + k)) :: outsOf N st (k + 1) n

/-- the results' values -/
def resAV (P : Program) (N : Nat) (st : St) : ResultVar → Option AV
  | .tmp t => some (ev N st (.tmp t))
  | .cell t ty => match loadF P st ty (ev N st (.tmp t)) with
    | some (none, v) => some v
    | _ => none

def resAVs (P : Program) (N : Nat) (st : St) : List ResultVar → Option (List AV)
  | [] => some []
  | r :: rs => match resAV P N st r with
    | some v => match resAVs P N st rs with
      | some vs => some (v :: vs)
      | none => none
    | none => none

def oneOf : List AV → AV
  | [v] => v
  | vs => .tup vs

def retK (P : Program) (fn : Func) (n : Nat) (post : Out → Prop) (st : St) : Prop :=
  match resAVs P fn.ntmps st fn.results.toList with
  | some vs => match oneOf vs with
    | .bor t none => bif Nat.blt t fn.ntmps then
        match st t with
        | .own sz k get => post (.ret (.own sz k get) (outsOf fn.ntmps st 0 n))
        | .imap k look => post (.ret (.imap k look) (outsOf fn.ntmps st 0 n))
        | _ => False
      else False
    | .ref t 0 => bif Nat.blt t fn.ntmps then
        match st t with
        | .obox cs => post (.ret (.obox cs) (outsOf fn.ntmps st 0 n))
        | _ => False
      else False
    | v => match toData st v with
      | some (d, st1) => post (.ret (.d d) (outsOf fn.ntmps st1 0 n))
      | none => False
  | none => False

/-- the conditions of a function's body -/
def fnK (P : Program) (fn : Func) (keep : List Nat) (ar : List Arg) (post : Out → Prop) : Prop :=
  match fn.body with
  | some c => cond (Nat.ble ar.length fn.ntmps) (vc P fn.ntmps keep c (initSt fn.ntmps 0 ar)
      { norm := retK P fn ar.length post, ret := retK P fn ar.length post, exit := fun _ _ => False, pan := fun d st => post (.pan d (outsOf fn.ntmps st 0 ar.length)) }) False
  | none => False

end AM

/- AM: quiet operations do what the conditions say. -/
namespace AM
open Go

theorem ofValue_rel {I : Nat → Prop} {w : World} (v : Value) : ∀ d, ofValue v = some d → DRel I w d v := by
  refine ofValue.induct (motive_1 := fun v => ∀ d, ofValue v = some d → DRel I w d v)
    (motive_2 := fun vs => ∀ ds, ofValues vs = some ds → vs.length = ds.length ∧ ∀ (i : Nat) (d : D) (u : Value), ds[i]? = some d → vs[i]? = some u → DRel I w d u)
    ?_ ?_ ?_ ?_ ?_ ?_ ?_ ?_ ?_ ?_ ?_ ?_ ?_ ?_ v
  · intro b d h; simp [ofValue] at h; subst h; exact .bool b
  · intro k n d h; simp [ofValue] at h; subst h; exact .int k n
  · intro s d h; simp [ofValue] at h; subst h; exact .str s
  · intro d h; simp [ofValue] at h; subst h; exact .nilp
  · intro d h; simp [ofValue] at h; subst h; exact .nils
  · intro d h; simp [ofValue] at h; subst h; exact .nilm
  · intro d h; simp [ofValue] at h; subst h; exact .nilf
  · intro d h; simp [ofValue] at h; subst h; exact .nili
  · intro f d h; simp [ofValue] at h; subst h; exact .fn f
  · intro cs ih d h
    simp only [ofValue, Option.map_eq_some_iff] at h
    obtain ⟨ds, h1, rfl⟩ := h
    obtain ⟨h2, h3⟩ := ih ds h1
    exact .agg ds cs h2 h3
  · intro t h1 h2 h3 h4 h5 h6 h7 h8 h9 h10 d h
    exfalso
    unfold ofValue at h
    split at h
    · exact h1 _ rfl
    · exact h2 _ _ rfl
    · exact h3 _ rfl
    · exact h4 rfl
    · exact h5 rfl
    · exact h6 rfl
    · exact h7 rfl
    · exact h8 rfl
    · exact h9 _ rfl
    · exact h10 _ rfl
    · simp at h
  · intro ds h; simp [ofValues] at h; subst h; exact ⟨rfl, fun i d u h => by simp at h⟩
  · intro v r d hv ih1 ih2 ds h
    simp only [ofValues, hv, Option.map_eq_some_iff] at h
    obtain ⟨ds', h1, rfl⟩ := h
    obtain ⟨h2, h3⟩ := ih2 ds' h1
    refine ⟨by simp [h2], fun i d' u hd hu => ?_⟩
    cases i with
    | zero => simp at hd hu; subst hd; subst hu; exact ih1 d hv
    | succ i => simp at hd hu; exact h3 i d' u hd hu
  · intro v r hv _ ds h
    simp [ofValues, hv] at h

theorem Sat.slot_at {cx : Cx} {g : G} {st : St} {a : Act} {w : World} (h : Sat cx g st a w) (t : Nat) : ∃ v, SlotR g w t v (st t) ∧ (t < cx.N → v = a.tmps.getD t undef) := by
  by_cases ht : t < cx.N
  · exact ⟨_, h.slot t ht, fun _ => rfl⟩
  · exact ⟨_, h.extra t (Nat.le_of_not_lt ht), fun h => absurd h ht⟩

theorem deref_rel {g : G} {w : World} {t : Nat} {v : Value} {x : AV} (h : SlotR g w t v x) : ValR g w (deref t x) v := by
  cases x with
  | own sz n get => obtain ⟨h1, -⟩ := h; rw [h1]; exact .bor t none
  | imap k look => obtain ⟨h1, -⟩ := h; rw [h1]; exact .bor t none
  | obox cs =>
    obtain ⟨h1, b, o, c, e, hv, -⟩ := h
    rw [hv]; exact .ref t 0 b o (h1 ▸ hv)
  | _ => exact h

theorem ev_rel {cx : Cx} {g : G} {st : St} {a : Act} {w : World} (h : Sat cx g st a w) (x : Operand) : ValR g w (ev cx.N st x) (a.eval x) := by
  cases x with
  | tmp t =>
    simp only [ev, Act.eval]
    cases hb : Nat.blt t cx.N with
    | false => exact .d _ _ (.und _)
    | true => exact deref_rel (h.slot t (Nat.blt_eq.mp hb))
  | const v =>
    simp only [ev, Act.eval]
    cases hv : ofValue v with
    | none => exact .d _ _ (.und _)
    | some d => exact .d _ _ (ofValue_rel v d hv)
  | global k => exact .d _ _ (.und _)
  | func f => exact .d _ _ (.fn f)

theorem evs_rel {cx : Cx} {g : G} {st : St} {a : Act} {w : World} (h : Sat cx g st a w) : ∀ (l : List Operand),
    (evs cx.N st l).length = l.length ∧ ∀ (i : Nat) (x : AV) (u : Value), (evs cx.N st l)[i]? = some x → (l.map a.eval)[i]? = some u → ValR g w x u
  | [] => ⟨rfl, fun i x u hx => by simp [evs] at hx⟩
  | o :: r => by
    obtain ⟨h1, h2⟩ := evs_rel h r
    refine ⟨by simp [evs, h1], fun i x u hx hu => ?_⟩
    cases i with
    | zero => simp [evs] at hx hu; subst hx; subst hu; exact ev_rel h o
    | succ i => simp [evs] at hx; simp at hu; exact h2 i x u hx (by simpa using hu)

/-! what a new owner brings -/
def Made0 (g : G) (w w' : World) (u : Value) : AV → Prop
  | .own sz n get => (∃ o, w'.heap = w.heap.push o) ∧ blockOf u = some w.heap.size ∧ OwnR g.I w' sz n get u
  | .imap k look => (∃ o, w'.heap = w.heap.push o) ∧ blockOf u = some w.heap.size ∧ MapR g.I w' k look u
  | .obox cs => (∃ o, w'.heap = w.heap.push o) ∧ blockOf u = some w.heap.size ∧ (∀ (j : Nat) (x : AV), cs[j]? = some x → x.owns = false) ∧ ∀ t, BoxR g w' t cs u
  | v => w'.heap = w.heap ∧ ValR g w' v u

def Made (g : G) (w w' : World) (u : Value) (v : AV) : Prop := Still w w' ∧ Made0 g w w' u v

theorem Made_plain {g : G} {w w' : World} {u : Value} {v : AV} (hv : v.plain = true) : Made g w w' u v ↔ (Still w w' ∧ w'.heap = w.heap ∧ ValR g w' v u) := by
  cases v <;> first | exact Iff.rfl | simp [AV.plain] at hv

theorem Made.of {g : G} {w : World} {u : Value} {v : AV} (h : ValR g w v u) : Made g w w u v := by
  have hp : v.plain = true := by cases h <;> rfl
  exact (Made_plain hp).2 ⟨Still.refl _, rfl, h⟩

/-! types -/
theorem info_of_szT {P : Program} {t : TypeId} {k : Nat} (h : szT P t = some k) : ∃ i, P.info? t = some i ∧ i.size = k := by
  unfold szT at h
  split at h
  · rename_i i hi; simp at h; exact ⟨i, hi, h⟩
  · simp at h

theorem run_typeInfo {P : Program} {t : TypeId} {i : TypeInfo} (h : P.info? t = some i) (w : World) : (typeInfo t).run P w = .ok i w := by
  simp [typeInfo, h]

theorem run_sizeOf {P : Program} {t : TypeId} {k : Nat} (h : szT P t = some k) (w : World) : (Go.sizeOf t).run P w = .ok k w := by
  obtain ⟨i, hi, rfl⟩ := info_of_szT h
  simp [Go.sizeOf, run_typeInfo hi]

theorem run_isAgg {P : Program} {t : TypeId} {b : Bool} (h : aggT P t = some b) (w : World) : (isAgg t).run P w = .ok b w := by
  unfold aggT at h
  cases hu : P.underlying t with
  | none => simp [hu] at h
  | some d =>
    simp only [isAgg, Sem.run_bind, run_underlying hu, Result.andThen_ok]
    cases d <;> simp [hu] at h <;> subst h <;> rfl

theorem zero_of {P : Program} {t : TypeId} {z : D} (h : zeroD P t = some z) : ∃ i v, P.info? t = some i ∧ i.zero = some v ∧ ofValue v = some z := by
  unfold zeroD at h
  split at h
  · rename_i i hi
    split at h
    · rename_i v hv; exact ⟨i, v, hi, hv, h⟩
    · simp at h
  · simp at h

theorem run_zeroValue {P : Program} {t : TypeId} {i : TypeInfo} {v : Value} (hi : P.info? t = some i) (hv : i.zero = some v) (w : World) : (zeroValue t).run P w = .ok v w := by
  simp [zeroValue, run_typeInfo hi, hv]

/-! cells of data -/
theorem cells_rel {I : Nat → Prop} {w : World} {d : D} {v : Value} (h : DRel I w d v) (hg : d.good = true) :
    v.cells.toList.length = d.cells.length ∧ ∀ (j : Nat) (x : D) (u : Value), d.cells[j]? = some x → v.cells.toList[j]? = some u → DRel I w x u := by
  have h0 := h
  cases h with
  | agg cs us hl hr => exact ⟨by simpa [Value.cells, D.cells] using hl, fun j x u hx hu => hr j x u (by simpa [D.cells] using hx) (by simpa [Value.cells] using hu)⟩
  | und v => simp [D.good, D.one] at hg
  | tup cs us hl hr => simp [D.good, D.one] at hg
  | _ =>
    refine ⟨rfl, fun j x u hx hu => ?_⟩
    cases j with
    | succ j => simp [D.cells] at hx
    | zero => simp [D.cells] at hx; simp [Value.cells] at hu; subst hx; subst hu; exact h0

end AM

/- AM: quiet operations, one by one. -/
namespace AM
open Go

/-- a computation comes to what a result says -/
def RunOk (P : Program) (g : G) (w : World) (s : Sem Value) (res : Res) : Prop :=
  ∀ c v, res = some (c, v) → (∀ p, c = some p → p) → ∃ u w', s.run P w = .ok u w' ∧ Made g w w' u v

theorem RunOk.none {P : Program} {g : G} {w : World} {s : Sem Value} : RunOk P g w s none := fun _ _ h => by simp at h

theorem RunOk.okR {P : Program} {g : G} {w : World} {s : Sem Value} {v : AV} (h : ∃ u w', s.run P w = .ok u w' ∧ Made g w w' u v) : RunOk P g w s (okR v) := by
  intro c v' h1 _
  simp [AM.okR] at h1
  obtain ⟨rfl, rfl⟩ := h1
  exact h

theorem RunOk.ifR {P : Program} {g : G} {w : World} {s : Sem Value} {v : AV} {p : Prop} (h : p → ∃ u w', s.run P w = .ok u w' ∧ Made g w w' u v) : RunOk P g w s (ifR p v) := by
  intro c v' h1 h2
  simp [AM.ifR] at h1
  obtain ⟨rfl, rfl⟩ := h1
  exact h (h2 p rfl)

/-- it changes nothing -/
theorem RunOk.pure {P : Program} {g : G} {w : World} {s : Sem Value} {v : AV} {u : Value} (hr : s.run P w = .ok u w) (hv : ValR g w v u) : RunOk P g w s (AM.okR v) :=
  .okR ⟨u, w, hr, .of hv⟩

theorem RunOk.pureIf {P : Program} {g : G} {w : World} {s : Sem Value} {v : AV} {p : Prop} {u : Value} (h : p → s.run P w = .ok u w ∧ ValR g w v u) : RunOk P g w s (AM.ifR p v) :=
  .ifR fun hp => ⟨u, w, (h hp).1, .of (h hp).2⟩

theorem RunOk.dR {P : Program} {g : G} {w : World} {s : Sem Value} {o : Option D} (h : ∀ d, o = some d → ∃ u, s.run P w = .ok u w ∧ DRel g.I w d u) : RunOk P g w s (dR o) := by
  cases o with
  | none => exact .none
  | some d => obtain ⟨u, h1, h2⟩ := h d rfl; exact .pure h1 (.d _ _ h2)

theorem RunOk.dIfR {P : Program} {g : G} {w : World} {s : Sem Value} {o : Option D} {p : Prop} (h : ∀ d, o = some d → p → ∃ u, s.run P w = .ok u w ∧ DRel g.I w d u) : RunOk P g w s (dIfR p o) := by
  cases o with
  | none => exact .none
  | some d => exact .ifR fun hp => let ⟨u, h1, h2⟩ := h d rfl hp; ⟨u, w, h1, .of (.d _ _ h2)⟩

/-- a value in memory is laid anew: a box of data -/
theorem newVar_made {P : Program} {g : G} {w : World} (t : TypeId) (d : D) (v : Value) (h : ∀ I w', (∀ b, I b → w'.heap[b]? = w.heap[b]?) → (∀ b, g.I b → I b) → DRel I w' d v) (hg : d.good = true) (hI : ∀ b, g.I b → b < w.heap.size) :
    ∃ u w', (do pure (Value.pointer (some (← newVar t v))) : Sem Value).run P w = .ok u w' ∧ Made g w w' u (.obox (d.cells.map .d)) := by
  refine ⟨.pointer (some ⟨w.heap.size, 0, none⟩), { w with heap := w.heap.push (.cells v.cells t) }, by simp [newVar, newRow], ⟨rfl, rfl, rfl⟩, ⟨_, rfl⟩, rfl, fun j x hx => ?_, fun t' => ?_⟩
  · simp at hx; obtain ⟨y, -, rfl⟩ := hx; rfl
  · have hw : ∀ b, g.I b → (w.heap.push (.cells v.cells t))[b]? = w.heap[b]? := fun b hb => by
      have := hI b hb
      rw [Array.getElem?_push]
      split
      · omega
      · rfl
    have hd : DRel g.I { w with heap := w.heap.push (.cells v.cells t) } d v := h _ _ hw (fun _ h => h)
    obtain ⟨h1, h2⟩ := cells_rel hd hg
    refine ⟨w.heap.size, 0, v.cells, t, rfl, fun hb => Nat.lt_irrefl _ (hI _ hb), by simp, fun j x hx => ?_⟩
    simp at hx
    obtain ⟨y, hy, rfl⟩ := hx
    have hj : j < v.cells.toList.length := by
      rw [h1]
      exact (List.getElem?_eq_some_iff.mp hy).1
    refine ⟨v.cells.toList[j], by simp, ?_⟩
    exact h2 j y _ hy (by simp)

theorem DRel.world {I : Nat → Prop} {w w' : World} {d : D} {v : Value} (h : DRel I w d v) (hw : ∀ b, I b → w'.heap[b]? = w.heap[b]?) : DRel I w' d v := h.mono (fun _ h => h) hw

theorem allocF_ok {P : Program} {g : G} {w : World} (t : TypeId) (hI : ∀ b, g.I b → b < w.heap.size) : RunOk P g w (Instr.alloc t true (.tuple #[])) (allocF P t) := by
  unfold allocF
  split
  · rename_i z hz
    cases hg : z.good with
    | false => exact .none
    | true =>
      obtain ⟨i, v, hi, hv, hz'⟩ := zero_of hz
      refine .okR ?_
      obtain ⟨u, w', h1, h2⟩ := newVar_made (P := P) (g := g) (w := w) t z v (fun I w' _ _ => ofValue_rel v z hz') hg hI
      refine ⟨u, w', ?_, h2⟩
      rw [← h1]
      simp [Instr.alloc, run_zeroValue hi hv]
  · exact .none

theorem pickF_ok {P : Program} {g : G} {w : World} {x y z : AV} {c a b : Value} (hc : ValR g w x c) (ha : ValR g w y a) (hb : ValR g w z b) :
    RunOk P g w (do pure (if ← asBool c then a else b)) (pickF x y z) := by
  unfold pickF
  split
  · rename_i b'
    cases hc with
    | d _ _ hc =>
      cases hc
      split
      · rename_i p q
        cases ha with
        | d _ _ ha =>
          cases ha
          cases hb with
          | d _ _ hb =>
            cases hb
            refine .pure (u := .bool (cond b' p q)) ?_ (.d _ _ (.bool _))
            cases b' <;> simp [asBool]
      · cases b'
        · exact .pure (by simp [asBool]) hb
        · exact .pure (by simp [asBool]) ha
  · exact .none

theorem ifcF_ok {P : Program} {g : G} {w : World} {x : AV} {u : Value} (t : TypeId) (hx : ValR g w x u) : RunOk P g w (Instr.makeInterface t u) (ifcF P t x) := by
  unfold ifcF
  split
  · exact .none
  · rename_i d y hne hd
    cases hx with
    | d _ _ hx =>
      refine .pure (u := .iface t u) ?_ (.d _ _ (.ifc _ _ _ hx))
      simp only [Instr.makeInterface, Sem.run_bind, run_underlying hd, Result.andThen_ok, Sem.run_pure]
  · exact .none

theorem mapF_ok {P : Program} {g : G} {w : World} (t : TypeId) (hI : ∀ b, g.I b → b < w.heap.size) : RunOk P g w (Instr.makeMap t none) (mapF P t) := by
  unfold mapF
  split
  · split
    · rename_i k _
      refine .okR ⟨.map (some w.heap.size), { w with heap := w.heap.push (.map #[] 0) }, by simp [Instr.makeMap], ⟨rfl, rfl, rfl⟩, ⟨_, rfl⟩, rfl, w.heap.size, #[], 0, rfl, fun hb => Nat.lt_irrefl _ (hI _ hb), by simp, fun m => ?_⟩
      simp [MapLook, Instr.findNow]
    · exact .none
  · exact .none

theorem extractF_ok {P : Program} {g : G} {w : World} {x : AV} {u : Value} (i : Nat) (hx : ValR g w x u) : RunOk P g w (Instr.extract u i) (extractF x i) := by
  unfold extractF
  split
  · rename_i ds
    cases hx with
    | d _ _ hx =>
      cases hx with
      | tup _ us hl hr =>
        refine .dR fun d hd => ?_
        have hi : i < us.length := by rw [hl]; exact (List.getElem?_eq_some_iff.mp hd).1
        exact ⟨us[i], by simp [Instr.extract, hi], hr i d _ hd (by simp [hi])⟩
  · rename_i vs
    cases hx with
    | tup _ us hl hr =>
      split
      · rename_i v hv
        have hi : i < us.length := by rw [hl]; exact (List.getElem?_eq_some_iff.mp hv).1
        exact .pure (u := us[i]) (by simp [Instr.extract, hi]) (hr i v _ hv (by simp [hi]))
      · exact .none
  · exact .none

theorem convF_ok {P : Program} {g : G} {w : World} {x : AV} {u : Value} (s d : TypeId) (hx : ValR g w x u) : RunOk P g w (convert s d u) (convF P s d x) := by
  unfold convF
  split
  · rename_i k1 k2 k n h1 h2
    cases hx with
    | d _ _ hx =>
      cases hx
      exact .pure (u := .int k2 (k2.wrap n)) (by simp [convert, run_underlying h1, run_underlying h2, Conv.intToInt]) (.d _ _ (.int _ _))
  · rename_i b h1 h2
    cases hx with
    | d _ _ hx =>
      cases hx
      exact .pure (u := .string b) (by simp [convert, run_underlying h1, run_underlying h2]) (.d _ _ (.str _))
  · exact .none

theorem unF_ok {P : Program} {g : G} {w : World} {x : AV} {u : Value} (op : UnOp) (hx : ValR g w x u) : RunOk P g w (Op.unary op u) (unF op x) := by
  unfold unF
  split
  · cases hx with
    | d _ _ hx => cases hx; rename_i k n; exact .pure (u := .int k (k.wrap (0 - n))) rfl (.d _ _ (.int _ _))
  · cases hx with
    | d _ _ hx => cases hx; rename_i b; exact .pure (u := .bool (!b)) rfl (.d _ _ (.bool _))
  · exact .none

theorem kindEq_eq {a b : IntKind} (h : kindEq a b = true) : a = b := by cases a <;> cases b <;> first | rfl | simp [kindEq] at h

theorem intF_ok {P : Program} {g : G} {w : World} (op : BinOp) (t : TypeId) (k : IntKind) (a b : Int) (hs : op ≠ .shl) (hr : op ≠ .shr) :
    RunOk P g w (binOp op t (.int k a) (.int k b)) (intF op k a b) := by
  cases op <;> simp only [intF] <;> first
    | exact .none
    | exact absurd rfl hs
    | exact absurd rfl hr
    | exact .pure (u := .int k (k.wrap (a + b))) (by simp [binOp, Op.intArith]) (.d _ _ (.int _ _))
    | exact .pure (u := .int k (k.wrap (a - b))) (by simp [binOp, Op.intArith]) (.d _ _ (.int _ _))
    | exact .pure (u := .int k (k.wrap (a * b))) (by simp [binOp, Op.intArith]) (.d _ _ (.int _ _))
    | exact .pure (u := .int k (andI k a b)) (by simp [binOp, Op.intBits, andI]) (.d _ _ (.int _ _))
    | exact .pure (u := .int k (orI k a b)) (by simp [binOp, Op.intBits, orI]) (.d _ _ (.int _ _))
    | exact .pure (u := .int k (xorI k a b)) (by simp [binOp, Op.intBits, xorI]) (.d _ _ (.int _ _))
    | exact .pure (u := .bool (a == b)) (by simp [binOp, Op.intCmp]) (.d _ _ (.bool _))
    | exact .pure (u := .bool (a != b)) (by simp [binOp, Op.intCmp]) (.d _ _ (.bool _))
    | exact .pure (u := .bool (decide (a < b))) (by simp [binOp, Op.intCmp]) (.d _ _ (.bool _))
    | exact .pure (u := .bool (decide (a ≤ b))) (by simp [binOp, Op.intCmp]) (.d _ _ (.bool _))
    | exact .pure (u := .bool (decide (a > b))) (by simp [binOp, Op.intCmp]) (.d _ _ (.bool _))
    | exact .pure (u := .bool (decide (a ≥ b))) (by simp [binOp, Op.intCmp]) (.d _ _ (.bool _))
    | exact .pureIf (u := .int k (k.wrap (a.tdiv b))) fun hp => ⟨by simp [binOp, Op.intDiv, hp], .d _ _ (.int _ _)⟩
    | exact .pureIf (u := .int k (a.tmod b)) fun hp => ⟨by simp [binOp, Op.intDiv, hp], .d _ _ (.int _ _)⟩

theorem strF_ok {P : Program} {g : G} {w : World} (op : BinOp) (t : TypeId) (a b : ByteArray) :
    RunOk P g w (binOp op t (.string a) (.string b)) (strF op a b) := by
  cases op <;> simp only [strF] <;> first
    | exact .none
    | exact .pure (u := .bool (strEq a b)) (by simp [binOp, Op.stringOp, strEq]) (.d _ _ (.bool _))
    | exact .pure (u := .bool (!strEq a b)) (by simp [binOp, Op.stringOp, strEq]) (.d _ _ (.bool _))
    | (refine .pureIf (u := .string (a ++ b)) fun hp => ⟨?_, .d _ _ (.str _)⟩
       have : ¬ ((a.size + b.size : Nat) : Int) > IntKind.i64.max := by simp; omega
       simp only [binOp, Op.stringOp]
       rw [if_neg this]; rfl)

end AM

/- AM: quiet operations that read memory. -/
namespace AM
open Go

/-! reading owners -/
theorem range_map_get {α : Type} {f : Nat → α} {k i : Nat} {u : α} (h : ((List.range k).map f)[i]? = some u) : i < k ∧ f i = u := by
  rw [List.getElem?_map, Option.map_eq_some_iff] at h
  obtain ⟨j, hj, h⟩ := h
  obtain ⟨h1, h2⟩ := List.getElem?_eq_some_iff.mp hj
  simp at h1 h2
  subst h2
  exact ⟨h1, h⟩

theorem getD_of {c : Array Value} {i : Nat} (h : i < c.size) : c[i]? = some (c[i]?.getD undef) := by
  simp [h]

theorem cell_of_block {w : World} {b o : Nat} {c : Array Value} {e : TypeId} {fr : Nat × Nat} (h : w.heap[b]? = some (.cells c e fr)) : w.cell? ⟨b, o, none⟩ = c[o]? := by
  simp [World.cell?, h]

theorem add_none (b o n : Nat) : Addr.add ⟨b, o, none⟩ n = ⟨b, o + n, none⟩ := by
  unfold Addr.add
  split
  · rename_i h; subst h; rfl
  · rfl

theorem run_loadCellsFrom {P : Program} {w : World} {b o : Nat} {c : Array Value} {e : TypeId} {fr : Nat × Nat} (h : w.heap[b]? = some (.cells c e fr)) :
    ∀ (n i : Nat) (acc : Array Value) (us : List Value), us.length = n → (∀ (j : Nat) (u : Value), us[j]? = some u → c[o + (i + j)]? = some u) →
      (loadCellsFrom ⟨b, o, none⟩ i n acc).run P w = .ok (acc ++ us.toArray) w
  | 0, i, acc, us, hl, _ => by
    have : us = [] := List.length_eq_zero_iff.mp hl
    subst this; simp [loadCellsFrom]
  | n + 1, i, acc, us, hl, hu => by
    cases us with
    | nil => simp at hl
    | cons u r =>
      have h0 := hu 0 u (by simp)
      have hr := run_loadCellsFrom (P := P) (o := o) h n (i + 1) (acc.push u) r (by simpa using hl) (fun j v hj => by
        have := hu (j + 1) v (by simpa using hj)
        rwa [show i + 1 + j = i + (j + 1) by omega])
      simp only [loadCellsFrom, Sem.run_bind, run_load, add_none, cell_of_block h]
      simp only [Nat.add_zero] at h0
      rw [h0]
      simp only [Result.andThen_ok]
      rw [hr]
      simp

/-- a value of a type out of cells -/
theorem run_loadVar {P : Program} {I : Nat → Prop} {w : World} {b o : Nat} {c : Array Value} {e : TypeId} {fr : Nat × Nat} (h : w.heap[b]? = some (.cells c e fr))
    {t : TypeId} {cs : List D} {j : Nat} {d : D} (hp : partF P t cs j = some d)
    (hc : ∀ (i : Nat) (x : D), cs[i]? = some x → ∃ u, c[o + i]? = some u ∧ DRel I w x u) :
    ∃ u, (loadVar t ⟨b, o + j, none⟩).run P w = .ok u w ∧ DRel I w d u := by
  unfold partF at hp
  split at hp
  · rename_i k ha hk
    unfold takeF at hp
    cases hl : Nat.beq ((cs.drop j).take k).length k with
    | false => simp only [hl, cond_false] at hp; simp at hp
    | true =>
      simp only [hl, cond_true, Option.some.injEq] at hp
      subst hp
      have hlen := Nat.eq_of_beq_eq_true hl
      have hget : ∀ i, i < k → ∃ x u, cs[j + i]? = some x ∧ c[o + j + i]? = some u ∧ DRel I w x u := fun i hi => by
        have hi' : i < ((cs.drop j).take k).length := by rw [hlen]; exact hi
        have hx : ((cs.drop j).take k)[i]? = some (((cs.drop j).take k)[i]'hi') := List.getElem?_eq_getElem hi'
        rw [List.getElem?_take, if_pos hi, List.getElem?_drop] at hx
        obtain ⟨u, hu, hd⟩ := hc _ _ hx
        exact ⟨_, u, hx, by rw [Nat.add_assoc]; exact hu, hd⟩
      have hus : ∃ us : List Value, us.length = k ∧ ∀ (i : Nat) (u : Value), us[i]? = some u → c[o + j + (0 + i)]? = some u := by
        refine ⟨(List.range k).map fun i => (c[o + j + i]?).getD undef, by simp, fun i u hu => ?_⟩
        obtain ⟨hi, rfl⟩ := range_map_get hu
        obtain ⟨x, u, -, hu, -⟩ := hget i hi
        rw [Nat.zero_add, hu]; rfl
      obtain ⟨us, hul, hu⟩ := hus
      refine ⟨.agg ⟨us⟩, ?_, .agg _ us (by rw [hul]; exact hlen.symm) fun i x u hx hxu => ?_⟩
      · simp only [loadVar, Sem.run_bind, run_isAgg ha, Result.andThen_ok, if_true, run_sizeOf hk, loadCells]
        rw [run_loadCellsFrom h k 0 #[] us hul hu]
        simp
      · have hi : i < k := by rw [← hlen]; exact (List.getElem?_eq_some_iff.mp hx).1
        rw [List.getElem?_take, if_pos hi, List.getElem?_drop] at hx
        obtain ⟨x', u', hx', hu', hd⟩ := hget i hi
        rw [hx] at hx'; cases hx'
        have := hu i u hxu
        rw [Nat.zero_add, hu'] at this; cases this
        exact hd
  · rename_i ha
    obtain ⟨u, hu, hd⟩ := hc j d hp
    refine ⟨u, ?_, hd⟩
    simp only [loadVar, Sem.run_bind, run_isAgg ha, Result.andThen_ok, Bool.false_eq_true, if_false, run_load, cell_of_block h, hu]
  · simp at hp

theorem sliceAt_own {cx : Cx} {g : G} {st : St} {a : Act} {w : World} (h : Sat cx g st a w) {t : Nat} {c : Option Nat} {sz n : Nat} {get : Nat → D} (hs : sliceAt st t c = some (sz, n, get)) :
    OwnR g.I w sz n get (g.val t c) ∧ ownsAt st t c = true := by
  obtain ⟨v, hv, -⟩ := h.slot_at t
  cases c with
  | none =>
    simp only [sliceAt] at hs
    split at hs
    · rename_i x1 x2 x3 hx
      simp at hs; obtain ⟨rfl, rfl, rfl⟩ := hs
      rw [hx] at hv
      exact ⟨hv.1 ▸ hv.2, by simp [ownsAt, hx]⟩
    · simp at hs
  | some j =>
    simp only [sliceAt] at hs
    split at hs
    · rename_i cs hx
      split at hs
      · rename_i x1 x2 x3 hj
        simp at hs; obtain ⟨rfl, rfl, rfl⟩ := hs
        rw [hx] at hv
        obtain ⟨-, b, o, c, e, -, -, -, hall⟩ := hv
        obtain ⟨u, -, hr⟩ := hall j _ hj
        exact ⟨hr.1 ▸ hr.2, by simp [ownsAt, hx, hj]⟩
      · simp at hs
    · simp at hs

theorem mapAt_own {cx : Cx} {g : G} {st : St} {a : Act} {w : World} (h : Sat cx g st a w) {t : Nat} {c : Option Nat} {k : IntKind} {look : Int → Option D} (hs : mapAt st t c = some (k, look)) :
    MapR g.I w k look (g.val t c) ∧ ownsAt st t c = true := by
  obtain ⟨v, hv, -⟩ := h.slot_at t
  cases c with
  | none =>
    simp only [mapAt] at hs
    split at hs
    · rename_i x1 x2 hx
      simp at hs; obtain ⟨rfl, rfl⟩ := hs
      rw [hx] at hv
      exact ⟨hv.1 ▸ hv.2, by simp [ownsAt, hx]⟩
    · simp at hs
  | some j =>
    simp only [mapAt] at hs
    split at hs
    · rename_i cs hx
      split at hs
      · rename_i x1 x2 hj
        simp at hs; obtain ⟨rfl, rfl⟩ := hs
        rw [hx] at hv
        obtain ⟨-, b, o, c, e, -, -, -, hall⟩ := hv
        obtain ⟨u, -, hr⟩ := hall j _ hj
        exact ⟨hr.1 ▸ hr.2, by simp [ownsAt, hx, hj]⟩
      · simp at hs
    · simp at hs

theorem box_at {cx : Cx} {g : G} {st : St} {a : Act} {w : World} (h : Sat cx g st a w) {t : Nat} {cs : List AV} (hs : st t = .obox cs) :
    BoxR g w t cs (g.val t none) := by
  obtain ⟨v, hv, -⟩ := h.slot_at t
  rw [hs] at hv
  exact hv.1 ▸ hv.2

theorem cellAV_rel {g : G} {w : World} {t j : Nat} {c v : AV} {u : Value} (h : CellR g w t j u c) (hc : cellAV t j c = some v) : ValR g w v u := by
  cases c <;> simp [cellAV] at hc <;> subst hc
  · exact .d _ _ h
  · rw [h.1]; exact .bor _ _
  · rw [h.1]; exact .bor _ _

theorem cellAVs_get {t : Nat} : ∀ {cs : List AV} {j : Nat} {vs : List AV}, cellAVs t j cs = some vs →
    vs.length = cs.length ∧ ∀ (i : Nat) (v : AV), vs[i]? = some v → ∃ c, cs[i]? = some c ∧ cellAV t (j + i) c = some v
  | [], j, vs, h => by simp [cellAVs] at h; subst h; exact ⟨rfl, fun i v h => by simp at h⟩
  | c :: r, j, vs, h => by
    simp only [cellAVs] at h
    split at h
    · rename_i x hx
      split at h
      · rename_i xs hxs
        simp at h; subst h
        obtain ⟨h1, h2⟩ := cellAVs_get hxs
        refine ⟨by simp [h1], fun i v hv => ?_⟩
        cases i with
        | zero => simp at hv; subst hv; exact ⟨c, rfl, hx⟩
        | succ i =>
          simp at hv
          obtain ⟨c', h3, h4⟩ := h2 i v hv
          exact ⟨c', by simpa using h3, by rw [show j + (i + 1) = j + 1 + i by omega]; exact h4⟩
      · simp at h
    · simp at h

theorem toDs_get : ∀ {vs : List AV} {ds : List D}, toDs vs = some ds → ds.length = vs.length ∧ ∀ (i : Nat) (d : D), ds[i]? = some d → vs[i]? = some (.d d)
  | [], ds, h => by simp [toDs] at h; subst h; exact ⟨rfl, fun i d h => by simp at h⟩
  | v :: r, ds, h => by
    simp only [toDs] at h
    split at h
    · rename_i x hx
      split at h
      · rename_i xs hxs
        simp at h; subst h
        obtain ⟨h1, h2⟩ := toDs_get hxs
        refine ⟨by simp [h1], fun i d hd => ?_⟩
        cases i with
        | zero => simp at hd; subst hd; cases v <;> simp [AV.toD] at hx; subst hx; rfl
        | succ i => simp at hd; simpa using h2 i d hd
      · simp at h
    · simp at h

theorem mkAgg_rel {g : G} {w : World} {vs : List AV} {us : List Value} (hl : us.length = vs.length) (h : ∀ (i : Nat) (x : AV) (u : Value), vs[i]? = some x → us[i]? = some u → ValR g w x u) :
    ValR g w (mkAgg vs) (.agg ⟨us⟩) := by
  unfold mkAgg
  split
  · rename_i ds hd
    obtain ⟨h1, h2⟩ := toDs_get hd
    refine .d _ _ (.agg ds us (by omega) fun i d u hi hu => ?_)
    have := h i _ u (h2 i d hi) hu
    cases this with | d _ _ h => exact h
  · exact .agg vs us hl h

theorem sureAddr_run {P : Program} {w : World} {a : Addr} : (Instr.sureAddr (.pointer (some a))).run P w = .ok a w := rfl

/-- a computation that changes nothing at all -/
def RunSame (P : Program) (g : G) (w : World) (s : Sem Value) (res : Res) : Prop :=
  ∀ c v, res = some (c, v) → (∀ p, c = some p → p) → ∃ u, s.run P w = .ok u w ∧ ValR g w v u

theorem RunSame.none {P : Program} {g : G} {w : World} {s : Sem Value} : RunSame P g w s none := fun _ _ h => by simp at h

theorem RunSame.pure {P : Program} {g : G} {w : World} {s : Sem Value} {v : AV} {u : Value} (hr : s.run P w = .ok u w) (hv : ValR g w v u) : RunSame P g w s (AM.okR v) := by
  intro c v' h1 _
  simp [AM.okR] at h1
  obtain ⟨rfl, rfl⟩ := h1
  exact ⟨u, hr, hv⟩

theorem RunSame.dR {P : Program} {g : G} {w : World} {s : Sem Value} {o : Option D} (h : ∀ d, o = some d → ∃ u, s.run P w = .ok u w ∧ DRel g.I w d u) : RunSame P g w s (dR o) := by
  cases o with
  | none => exact .none
  | some d => obtain ⟨u, h1, h2⟩ := h d rfl; exact .pure h1 (.d _ _ h2)

theorem RunSame.ok {P : Program} {g : G} {w : World} {s : Sem Value} {r : Res} (h : RunSame P g w s r) : RunOk P g w s r := fun c v h1 h2 => by
  obtain ⟨u, h3, h4⟩ := h c v h1 h2
  exact ⟨u, w, h3, .of h4⟩

theorem loadF_same {P : Program} {cx : Cx} {g : G} {st : St} {a : Act} {w : World} (h : Sat cx g st a w) (t : TypeId) {x : AV} {u : Value} (hx : ValR g w x u) :
    RunSame P g w (Instr.loadAt t u) (loadF P st t x) := by
  unfold loadF
  split
  · rename_i s j
    cases hx with
    | ref _ _ b o hv =>
    split
    · rename_i cs k hs ha hk
      obtain ⟨b', o', c, e, hv', -, hb, hall⟩ := box_at h hs
      rw [hv] at hv'; cases hv'
      split
      · rename_i vs hvs
        cases hn : Nat.beq vs.length k with
        | false => exact .none
        | true =>
          have hn' := Nat.eq_of_beq_eq_true hn
          obtain ⟨h1, h2⟩ := cellAVs_get hvs
          have hget : ∀ i, i < k → ∃ u v, c[o + j + i]? = some u ∧ vs[i]? = some v ∧ ValR g w v u := fun i hi => by
            have hi' : i < vs.length := by omega
            obtain ⟨cc, h3, h4⟩ := h2 i vs[i] (by simp [hi'])
            rw [List.getElem?_take, if_pos hi, List.getElem?_drop] at h3
            obtain ⟨u, hu, hr⟩ := hall _ _ h3
            exact ⟨u, vs[i], by rw [Nat.add_assoc]; exact hu, by simp [hi'], cellAV_rel hr h4⟩
          refine .pure (u := .agg ⟨(List.range k).map fun i => (c[o + j + i]?).getD undef⟩) ?_ (mkAgg_rel (by simp [hn']) fun i x u hx hu => ?_)
          · simp only [Instr.loadAt, Sem.run_bind, sureAddr_run, Result.andThen_ok, loadVar, run_isAgg ha, if_true, run_sizeOf hk, loadCells]
            rw [run_loadCellsFrom hb k 0 #[] ((List.range k).map fun i => (c[o + j + i]?).getD undef) (by simp) (fun i u hu => ?_)]
            · simp
            · obtain ⟨hi, rfl⟩ := range_map_get hu
              obtain ⟨u, v, hu, -, -⟩ := hget i hi
              rw [Nat.zero_add, hu]; rfl
          · obtain ⟨hi, rfl⟩ := range_map_get hu
            obtain ⟨u, v, hu, hv, hr⟩ := hget i hi
            rw [hx] at hv; cases hv
            rw [hu]; exact hr
      · exact .none
    · rename_i cs _ hs ha
      obtain ⟨b', o', c, e, hv', -, hb, hall⟩ := box_at h hs
      rw [hv] at hv'; cases hv'
      split
      · rename_i cc hj
        split
        · rename_i v hcv
          obtain ⟨u, hu, hr⟩ := hall j cc hj
          refine .pure (u := u) ?_ (cellAV_rel hr hcv)
          simp only [Instr.loadAt, Sem.run_bind, sureAddr_run, Result.andThen_ok, loadVar, run_isAgg ha, Bool.false_eq_true, if_false, run_load, cell_of_block hb, hu]
        · exact .none
      · exact .none
    · exact .none
  · rename_i s c sz i j
    cases hx with
    | eref _ _ _ _ _ b o n cap hv hi =>
    split
    · rename_i sz' n' get hs
      cases hz : Nat.beq sz sz' with
      | false => exact .none
      | true =>
        have hz' := Nat.eq_of_beq_eq_true hz
        subst hz'
        obtain ⟨⟨b', o', cap', cc, e, hv', hn, hni, hb, ho, hl, -, hd⟩, -⟩ := sliceAt_own h hs
        rw [hv] at hv'; cases hv'
        refine .dR fun d hp => ?_
        obtain ⟨u, h1, h2⟩ := run_loadVar (P := P) (I := g.I) (o := o + i * sz) hb hp (fun m x hm => hd i m x hi hm)
        refine ⟨u, ?_, h2⟩
        simp only [Instr.loadAt, Sem.run_bind, sureAddr_run, Result.andThen_ok]
        rw [show o + (i * sz + j) = o + i * sz + j by omega]
        exact h1
    · exact .none
  · rename_i cs j
    cases hx with
    | d _ _ hx =>
      cases hx with
      | ptr _ _ b o c e fr us hb hc hu hd =>
        refine .dR fun d hp => ?_
        obtain ⟨u, h1, h2⟩ := run_loadVar (P := P) (I := g.I) (o := o) hc hp (fun m x hm => ⟨us m, hu m (List.getElem?_eq_some_iff.mp hm).1, hd m x hm⟩)
        exact ⟨u, by simp only [Instr.loadAt, Sem.run_bind, sureAddr_run, Result.andThen_ok]; exact h1, h2⟩
  · exact .none

theorem loadF_ok {P : Program} {cx : Cx} {g : G} {st : St} {a : Act} {w : World} (h : Sat cx g st a w) (t : TypeId) {x : AV} {u : Value} (hx : ValR g w x u) :
    RunOk P g w (Instr.loadAt t u) (loadF P st t x) := (loadF_same h t hx).ok

end AM

/- AM: quiet operations: addresses, comparisons, bounds, maps. -/
namespace AM
open Go

theorem step_equalIn {P : Program} {w : World} {t : TypeId} {u v : Value} {b : Bool} (h : ∀ d : Nat, (Op.equalIn (d + 1) t u v).run P w = .ok b w) : (Op.equal t u v).run P w = .ok b w := h 9999

theorem eqAV_ok {P : Program} {g : G} {w : World} {t : TypeId} {x y : AV} {u v : Value} {b : Bool} (h : eqAV P t x y = some b) (hx : ValR g w x u) (hy : ValR g w y v) :
    (Op.equal t u v).run P w = .ok b w ∧ (∀ op o1 o2, eqGuard op t o1 o2 u v = pure ()) ∧ (∀ op, op = .eql ∨ op = .neq → binOp op t u v = (do let e ← Op.equal t u v; pure (.bool (if op = .eql then e else !e)))) := by
  unfold eqAV at h
  split at h <;> simp at h <;> subst h <;> rename_i hu
  all_goals
    first
    | (cases hx with
       | d _ _ hx =>
        cases hx
        cases hy with
        | d _ _ hy =>
          cases hy
          refine ⟨step_equalIn fun d => by simp [Op.equalIn, run_underlying hu], fun op _ _ => by cases op <;> rfl, fun op hop => ?_⟩
          rcases hop with rfl | rfl <;> simp [binOp])
    | (cases hx
       cases hy with
       | d _ _ hy =>
          cases hy
          refine ⟨step_equalIn fun d => by simp [Op.equalIn, run_underlying hu], fun op _ _ => by cases op <;> rfl, fun op hop => ?_⟩
          rcases hop with rfl | rfl <;> simp [binOp])

theorem eqNil_run {P : Program} {g : G} {w : World} {op : BinOp} {t : TypeId} {x y : AV} {u v : Value} {n : Nat} {b : Bool} (o1 o2 : Operand) (h : eqNil P op t x y = some (n, b)) (hx : ValR g w x u) (hy : ValR g w y v) :
    ∃ r : Bool, (do eqGuard op t o1 o2 u v; binOp op t u v).run P w = .ok (.bool r) w ∧ (r = !b ∨ (n = 0 ∧ r = b)) := by
  unfold eqNil at h
  split at h <;> simp at h
  all_goals
    obtain ⟨rfl, rfl⟩ := h
    rename_i hu
    cases hy with
    | d _ _ hy =>
    cases hy
    cases hx with
    | d _ _ hx =>
    cases hx with
    | dat0 =>
      have : (Op.equal t (.slice none 0 0) (.slice none 0 0)).run P w = .ok true w := step_equalIn fun d => by simp [Op.equalIn, run_underlying hu]
      exact ⟨_, by simp [eqGuard, binOp, this], .inr ⟨rfl, rfl⟩⟩
    | datE _ cap _ a =>
      have : (Op.equal t (.slice (some a) 0 cap) (.slice none 0 0)).run P w = .ok false w := step_equalIn fun d => by simp [Op.equalIn, run_underlying hu]
      exact ⟨_, by simp [eqGuard, binOp, this], .inl rfl⟩
    | dat _ _ _ bb o cap c e fr us hb hc hn hl hus h1 hd =>
      have : ∀ m : Nat, (Op.equal t (.slice (some ⟨bb, o, none⟩) m cap) (.slice none 0 0)).run P w = .ok false w := fun m => step_equalIn fun d => by simp [Op.equalIn, run_underlying hu]
      exact ⟨_, by simp [eqGuard, binOp, this], .inl rfl⟩

theorem eqOwn_ok {P : Program} {cx : Cx} {g : G} {st : St} {a : Act} {w : World} (hs : Sat cx g st a w) {t : TypeId} {x y : AV} {u v : Value} {b : Bool} (h : eqOwn P st t x y = some b) (hx : ValR g w x u) (hy : ValR g w y v) :
    (Op.equal t u v).run P w = .ok b w ∧ (∀ op o1 o2, eqGuard op t o1 o2 u v = pure ()) ∧ (∀ op, op = .eql ∨ op = .neq → binOp op t u v = (do let e ← Op.equal t u v; pure (.bool (if op = .eql then e else !e)))) := by
  unfold eqOwn at h
  split at h
  · rename_i e1 s c hu
    split at h
    · rename_i p hp
      obtain ⟨sz, n, get⟩ := p
      simp at h; subst h
      cases hx
      cases hy with
      | d _ _ hy =>
        cases hy
        obtain ⟨⟨b, o, cap, c, e, hv, -⟩, -⟩ := sliceAt_own hs hp
        rw [hv]
        refine ⟨step_equalIn fun d => by simp [Op.equalIn, run_underlying hu], fun op _ _ => by cases op <;> rfl, fun op hop => ?_⟩
        rcases hop with rfl | rfl <;> simp [binOp]
    · simp at h
  · rename_i e1 e2 s c hu
    split at h
    · rename_i p hp
      obtain ⟨k, look⟩ := p
      simp at h; subst h
      cases hx
      cases hy with
      | d _ _ hy =>
        cases hy
        obtain ⟨⟨b, es, clock, hv, -⟩, -⟩ := mapAt_own hs hp
        rw [hv]
        refine ⟨step_equalIn fun d => by simp [Op.equalIn, run_underlying hu], fun op _ _ => by cases op <;> rfl, fun op hop => ?_⟩
        rcases hop with rfl | rfl <;> simp [binOp]
    · simp at h
  · simp at h

theorem binF_ok {P : Program} {cx : Cx} {g : G} {st : St} {a : Act} {w : World} (hs : Sat cx g st a w) (op : BinOp) (t : TypeId) (o1 o2 : Operand) {x y : AV} {u v : Value}
    (hx : ValR g w x u) (hy : ValR g w y v) : RunOk P g w (do eqGuard op t o1 o2 u v; binOp op t u v) (binF P st op t x y) := by
  unfold binF
  split
  · rename_i k1 a1 k2 b1
    cases hx with
    | d _ _ hx =>
    cases hx
    cases hy with
    | d _ _ hy =>
    cases hy
    have hg : eqGuard op t o1 o2 (.int k1 a1) (.int k2 b1) = pure () := by cases op <;> rfl
    rw [hg]
    show RunOk P g w (binOp op t (.int k1 a1) (.int k2 b1)) _
    split
    · exact .pureIf (u := .int k1 (shlI k1 a1 b1)) fun hp => ⟨by simp [binOp, Op.shift, shlI]; omega, .d _ _ (.int _ _)⟩
    · exact .pureIf (u := .int k1 (shrI k1 a1 b1)) fun hp => ⟨by simp [binOp, Op.shift, shrI]; omega, .d _ _ (.int _ _)⟩
    · rename_i h1 h2
      cases hk : kindEq k1 k2 with
      | false => exact .none
      | true => have := kindEq_eq hk; subst this; exact intF_ok op t k1 a1 b1 (fun h => h1 h) (fun h => h2 h)
  · rename_i a1 b1
    cases hx with
    | d _ _ hx =>
    cases hx
    cases hy with
    | d _ _ hy =>
    cases hy
    have hg : eqGuard op t o1 o2 (.string a1) (.string b1) = pure () := by cases op <;> rfl
    rw [hg]
    show RunOk P g w (binOp op t (.string a1) (.string b1)) _
    exact strF_ok op t a1 b1
  · split
    · split
      · rename_i b hb
        obtain ⟨h1, h2, h3⟩ := eqAV_ok hb hx hy
        refine .pure (u := .bool b) ?_ (.d _ _ (.bool _))
        rw [h2, h3 .eql (.inl rfl)]; simp [h1]
      · split
        · rename_i b hb
          obtain ⟨h1, h2, h3⟩ := eqOwn_ok hs hb hx hy
          refine .pure (u := .bool b) ?_ (.d _ _ (.bool _))
          rw [h2, h3 .eql (.inl rfl)]; simp [h1]
        · exact .none
    · split
      · rename_i b hb
        obtain ⟨h1, h2, h3⟩ := eqAV_ok hb hx hy
        refine .pure (u := .bool (!b)) ?_ (.d _ _ (.bool _))
        rw [h2, h3 .neq (.inr rfl)]; simp [h1]
      · split
        · rename_i b hb
          obtain ⟨h1, h2, h3⟩ := eqOwn_ok hs hb hx hy
          refine .pure (u := .bool (!b)) ?_ (.d _ _ (.bool _))
          rw [h2, h3 .neq (.inr rfl)]; simp [h1]
        · exact .none
    · exact .none

theorem fieldOf_spec {P : Program} {s : TypeId} {f : Nat} {fd : Field} (h : fieldOf P s f = some fd) : ∃ fs, P.underlying s = some (.struct fs) ∧ fs[f]? = some fd := by
  unfold fieldOf at h
  split at h
  · rename_i fs hfs; exact ⟨fs, hfs, h⟩
  · simp at h

theorem fieldAddrF_ok {P : Program} {g : G} {w : World} (s : TypeId) (f : Nat) {x : AV} {u : Value} (hx : ValR g w x u) : RunOk P g w (Instr.fieldAt s u f) (fieldAddrF P s x f) := by
  unfold fieldAddrF
  split
  · rename_i fd hf
    obtain ⟨fs, h1, h2⟩ := fieldOf_spec hf
    split
    · rename_i k hk
      have hrun : ∀ b o, (Instr.fieldAt s (.pointer (some ⟨b, o, none⟩)) f).run P w = .ok (.pointer (some ⟨b, o + fd.offset, none⟩)) w := fun b o => by
        simp [Instr.fieldAt, run_underlying h1, h2, sureAddr_run, fieldPlace, run_sizeOf hk, add_none]
      split
      · cases hx with
        | ref _ j b o hv => exact .pure (hrun _ _) (by rw [Nat.add_assoc]; exact .ref _ _ b o hv)
      · cases hx with
        | eref _ _ _ _ j b o n cap hv hi => exact .pure (hrun _ _) (by rw [Nat.add_assoc, Nat.add_assoc]; exact .eref _ _ _ _ _ b o n cap hv hi)
      · cases hx with
        | d _ _ hx =>
          cases hx with
          | ptr _ _ b o c e fr us hb hc hu hd => exact .pure (hrun _ _) (by rw [Nat.add_assoc]; exact .d _ _ (.ptr _ _ b o c e fr us hb hc hu hd))
      · exact .none
    · exact .none
  · exact .none

theorem partF_ok {P : Program} {g : G} {w : World} {t : TypeId} {cs : List D} {us : List Value} {j : Nat} {d : D} (hl : us.length = cs.length)
    (hr : ∀ (i : Nat) (d : D) (u : Value), cs[i]? = some d → us[i]? = some u → DRel g.I w d u) (hp : partF P t cs j = some d) :
    ∃ u, (part t ⟨us⟩ j).run P w = .ok u w ∧ DRel g.I w d u := by
  unfold partF at hp
  split at hp
  · rename_i k ha hk
    unfold takeF at hp
    cases hn : Nat.beq ((cs.drop j).take k).length k with
    | false => simp only [hn, cond_false] at hp; simp at hp
    | true =>
      simp only [hn, cond_true, Option.some.injEq] at hp
      subst hp
      have hn' := Nat.eq_of_beq_eq_true hn
      refine ⟨.agg ⟨(us.drop j).take k⟩, ?_, .agg _ _ (by simp [hl]) fun i x u hx hu => ?_⟩
      · simp only [part, Sem.run_bind, run_isAgg ha, Result.andThen_ok, if_true, run_sizeOf hk, Sem.run_pure]
        congr 2
        apply Array.ext'
        simp [List.take_drop]
      · rw [List.getElem?_take] at hx hu
        split at hx
        · rw [if_pos (by assumption), List.getElem?_drop] at hu
          rw [List.getElem?_drop] at hx
          exact hr _ _ _ hx hu
        · simp at hx
  · rename_i ha
    have hj : j < us.length := by rw [hl]; exact (List.getElem?_eq_some_iff.mp hp).1
    refine ⟨us[j], ?_, hr j d _ hp (by simp [hj])⟩
    simp [part, run_isAgg ha, hj]
  · simp at hp

theorem indexAddrF_ok {P : Program} {cx : Cx} {g : G} {st : St} {a : Act} {w : World} (h : Sat cx g st a w) (t : TypeId) {x i : AV} {u v : Value} (hx : ValR g w x u) (hi : ValR g w i v) :
    RunOk P g w (Instr.indexAt t u v) (indexAddrF P st t x i) := by
  unfold indexAddrF
  split
  · rename_i k m
    cases hi with
    | d _ _ hi =>
    cases hi
    split
    · rename_i e s c hu
      cases hx
      split
      · rename_i sz n get k' hs hk
        cases hz : Nat.beq sz k' with
        | false => exact .none
        | true =>
          have hz' := Nat.eq_of_beq_eq_true hz; subst hz'
          obtain ⟨⟨b, o, cap, cc, e', hv, hn, hni, hb, ho, hl, -, hd⟩, -⟩ := sliceAt_own h hs
          refine .pureIf (u := .pointer (some ⟨b, o + (m.toNat * sz + 0), none⟩)) fun hp => ⟨?_, .eref _ _ _ _ _ b o n cap hv (by omega)⟩
          rw [hv]
          simp [Instr.indexAt, run_underlying hu, asIntOf, hp.1, hp.2, run_sizeOf hk, add_none]
      · exact .none
    · rename_i e sz n get hu
      cases hx with
      | d _ _ hx =>
      cases hx with
      | dat0 =>
        split
        · rename_i k' hk
          cases hz : Nat.beq sz k' with
          | false => exact .none
          | true => exact .pureIf (u := .pointer none) fun hp => by omega
        · exact .none
      | datE =>
        split
        · rename_i k' hk
          cases hz : Nat.beq sz k' with
          | false => exact .none
          | true => exact .pureIf (u := .pointer none) fun hp => by omega
        · exact .none
      | dat _ _ _ b o cap c e' fr us hb hc hn hl hus h1 hd =>
      split
      · rename_i k' hk
        cases hz : Nat.beq sz k' with
        | false => exact .none
        | true =>
          have hz' := Nat.eq_of_beq_eq_true hz; subst hz'
          refine .pureIf (u := .pointer (some ⟨b, o + m.toNat * sz + 0, none⟩)) fun hp => ⟨?_, .d _ _ (.ptr _ 0 b (o + m.toNat * sz) c e' fr (us m.toNat) hb hc (fun j hj => hus _ _ (by omega) (by rw [hl _ (by omega)] at hj; exact hj)) (fun j d hj => hd _ _ _ (by omega) hj))⟩
          simp [Instr.indexAt, run_underlying hu, asIntOf, hp.1, hp.2, run_sizeOf hk, add_none]
      · exact .none
    · rename_i n e s j hu
      cases hx with
      | ref _ _ b o hv =>
      split
      · rename_i k' hk
        refine .pureIf (u := .pointer (some ⟨b, o + (j + m.toNat * k'), none⟩)) fun hp => ⟨?_, .ref _ _ b o hv⟩
        simp [Instr.indexAt, run_underlying hu, asIntOf, hp.1, hp.2, run_sizeOf hk, add_none, sureAddr_run, Nat.add_assoc]
      · exact .none
    · rename_i n e cs j hu
      cases hx with
      | d _ _ hx =>
      cases hx with
      | ptr _ _ b o c e' fr us hb hc hus hd =>
      split
      · rename_i k' hk
        refine .pureIf (u := .pointer (some ⟨b, o + (j + m.toNat * k'), none⟩)) fun hp => ⟨?_, .d _ _ (.ptr cs _ b o c e' fr us hb hc hus hd)⟩
        simp [Instr.indexAt, run_underlying hu, asIntOf, hp.1, hp.2, run_sizeOf hk, add_none, sureAddr_run, Nat.add_assoc]
      · exact .none
    · exact .none
  · exact .none

theorem indexF_ok {P : Program} {g : G} {w : World} (t : TypeId) {x i : AV} {u v : Value} (hx : ValR g w x u) (hi : ValR g w i v) :
    RunOk P g w (Instr.index t u v) (indexF P t x i) := by
  unfold indexF
  split
  · rename_i k m
    cases hi with
    | d _ _ hi =>
    cases hi
    split
    · rename_i s hu
      cases hx with
      | d _ _ hx =>
      cases hx
      refine .pureIf (u := .int .u8 (byteAt s m)) fun hp => ⟨?_, .d _ _ (.int _ _)⟩
      have hlt : m.toNat < s.size := by omega
      have hget : s[m.toNat]? = some (s[m.toNat]'hlt) := by simp [hlt]
      simp [Instr.index, run_underlying hu, asIntOf, hp.1, byteAt, hlt]
    · rename_i n e cs hu
      cases hx with
      | d _ _ hx =>
      cases hx with
      | agg _ us hl hr =>
      split
      · rename_i k' hk
        refine .dIfR fun d hd hp => ?_
        obtain ⟨u, h1, h2⟩ := partF_ok (g := g) hl hr hd
        refine ⟨u, ?_, h2⟩
        simp [Instr.index, run_underlying hu, asIntOf, hp.1, hp.2, run_sizeOf hk, h1]
      · exact .none
    · exact .none
  · exact .none

theorem fieldF_ok {P : Program} {g : G} {w : World} (s : TypeId) (f : Nat) {x : AV} {u : Value} (hx : ValR g w x u) :
    RunOk P g w (Instr.field s u f) (fieldF P s x f) := by
  unfold fieldF
  split
  · rename_i fd cs hf
    obtain ⟨fs, h1, h2⟩ := fieldOf_spec hf
    cases hx with
    | d _ _ hx =>
    cases hx with
    | agg _ us hl hr =>
    refine .dR fun d hd => ?_
    obtain ⟨u, h3, h4⟩ := partF_ok (g := g) hl hr hd
    exact ⟨u, by simp [Instr.field, run_underlying h1, h2, asAgg, h3], h4⟩
  · exact .none

end AM

/- AM: quiet operations: slices, maps, literals; all of them. -/
namespace AM
open Go

theorem bound_ok {cx : Cx} {g : G} {st : St} {a : Act} {w : World} (h : Sat cx g st a w) {n l : Int} {x : Option Operand} (hb : bound cx.N st n x = some l) :
    (x = none ∧ l = n) ∨ ∃ k, x.map a.eval = some (.int k l) := by
  cases x with
  | none => simp [bound] at hb; exact .inl ⟨rfl, hb.symm⟩
  | some x =>
    simp only [bound] at hb
    split at hb
    · rename_i k m hm
      simp at hb; subst hb
      have := ev_rel h x
      rw [hm] at this
      cases this with
      | d _ _ hd => generalize hv : a.eval x = v at hd; cases hd; exact .inr ⟨k, by simp [hv]⟩
    · simp at hb

theorem run_sliceBound_ok {P : Program} {w : World} {k : IntKind} {i : Int} {y : Nat} {code : BoundsCode} (h0 : 0 ≤ i) (h1 : i ≤ y) :
    (Instr.sliceBound (.int k i) y code).run P w = .ok i.toNat w := by
  simp [Instr.sliceBound, asIntOf, h0, h1]

theorem run_sliceBounds {P : Program} {w : World} {isS : Bool} {len cap : Nat} {lo hi : Option Value} {l h : Int}
    (hl : (lo = none ∧ l = 0) ∨ ∃ k, lo = some (.int k l)) (hh : (hi = none ∧ h = len) ∨ ∃ k, hi = some (.int k h)) (h0 : 0 ≤ l) (h1 : l ≤ h) (h2 : h ≤ cap) :
    (Instr.sliceBounds isS len cap lo hi none).run P w = .ok (l.toNat, h.toNat, cap) w := by
  rcases hh with ⟨rfl, rfl⟩ | ⟨k, rfl⟩ <;> rcases hl with ⟨rfl, rfl⟩ | ⟨k', rfl⟩
  · simp [Instr.sliceBounds]
  · have e1 : ∀ code, (Instr.sliceBound (.int k' l) len code).run P w = .ok l.toNat w := fun _ => run_sliceBound_ok h0 (by omega)
    simp [Instr.sliceBounds, e1]
  · have e1 : ∀ code, (Instr.sliceBound (.int k h) cap code).run P w = .ok h.toNat w := fun _ => run_sliceBound_ok (by omega) h2
    simp [Instr.sliceBounds, e1]
  · have e1 : ∀ code, (Instr.sliceBound (.int k h) cap code).run P w = .ok h.toNat w := fun _ => run_sliceBound_ok (by omega) h2
    have e2 : ∀ code, (Instr.sliceBound (.int k' l) h.toNat code).run P w = .ok l.toNat w := fun _ => run_sliceBound_ok h0 (by omega)
    simp [Instr.sliceBounds, e1, e2]

theorem sliceF_ok {P : Program} {cx : Cx} {g : G} {st : St} {a : Act} {w : World} (h : Sat cx g st a w) (t : TypeId) {x : AV} {u : Value} (hx : ValR g w x u) (lo hi : Option Operand) :
    RunOk P g w (Instr.sliceAt t u (lo.map a.eval) (hi.map a.eval) none) (sliceF P t x (bound cx.N st 0 lo) (fun n => bound cx.N st n hi)) := by
  unfold sliceF
  have fix : ∀ {n l : Int} {y : Option Operand}, ((y = none ∧ l = n) ∨ ∃ k, y.map a.eval = some (.int k l)) → ((y.map a.eval = none ∧ l = n) ∨ ∃ k, y.map a.eval = some (.int k l)) :=
    fun hh => hh.imp (fun ⟨h1, h2⟩ => ⟨by simp [h1], h2⟩) id
  split
  · rename_i s l hu hlo
    cases hx with
    | d _ _ hx =>
    cases hx
    split
    · rename_i hh hhi
      have hl := fix (bound_ok h hlo)
      have hh' := fix (bound_ok h hhi)
      refine .pureIf (u := .string (s.extract l.toNat hh.toNat)) fun hp => ⟨?_, .d _ _ (.str _)⟩
      have := run_sliceBounds (P := P) (w := w) (isS := false) (len := s.size) (cap := s.size) hl hh' hp.1 hp.2.1 hp.2.2
      simp [Instr.sliceAt, run_underlying hu, Instr.slice, this]
    · exact .none
  · rename_i e sz n get l hu hlo
    cases hx with
    | d _ _ hx =>
    cases hx with
    | dat0 =>
      split
      · rename_i hh k hhi hk
        cases hz : Nat.beq sz k with
        | false => exact .none
        | true =>
          have hl := fix (bound_ok h hlo)
          have hh' := fix (bound_ok h hhi)
          refine .pureIf (u := .slice none 0 0) fun hp => ⟨?_, .d _ _ ?_⟩
          · obtain rfl : l = 0 := by omega
            obtain rfl : hh = 0 := by omega
            have := run_sliceBounds (P := P) (w := w) (isS := true) (len := 0) (cap := 0) hl hh' (by omega) (by omega) (by omega)
            simp [Instr.sliceAt, run_underlying hu, Instr.slice, this, run_sizeOf hk]
          · obtain rfl : l = 0 := by omega
            obtain rfl : hh = 0 := by omega
            exact .dat0 _ _
      · exact .none
    | datE _ cap _ a =>
      split
      · rename_i hh k hhi hk
        cases hz : Nat.beq sz k with
        | false => exact .none
        | true =>
          have hl := fix (bound_ok h hlo)
          have hh' := fix (bound_ok h hhi)
          refine .pureIf (u := .slice (some (if cap = 0 then a else a.add (0 * k))) 0 cap) fun hp => ⟨?_, .d _ _ ?_⟩
          · obtain rfl : l = 0 := by omega
            obtain rfl : hh = 0 := by omega
            have := run_sliceBounds (P := P) (w := w) (isS := true) (len := 0) (cap := cap) hl hh' (by omega) (by omega) (by omega)
            simp [Instr.sliceAt, run_underlying hu, Instr.slice, this, run_sizeOf hk]
            split <;> rfl
          · obtain rfl : l = 0 := by omega
            obtain rfl : hh = 0 := by omega
            exact .datE _ _ _ _
      · exact .none
    | dat _ _ _ b o cap c e' fr us hb hc hn hlen hus h1 hd =>
    split
    · rename_i hh k hhi hk
      cases hz : Nat.beq sz k with
      | false => exact .none
      | true =>
        have hz' := Nat.eq_of_beq_eq_true hz; subst hz'
        have hl := fix (bound_ok h hlo)
        have hh' := fix (bound_ok h hhi)
        refine .pureIf (u := .slice (some ⟨b, if cap = l.toNat then o else o + l.toNat * sz, none⟩) (hh.toNat - l.toNat) (cap - l.toNat)) fun hp => ⟨?_, .d _ _ ?_⟩
        · have := run_sliceBounds (P := P) (w := w) (isS := true) (len := n) (cap := cap) hl hh' hp.1 hp.2.1 (by omega)
          simp only [Instr.sliceAt, Sem.run_bind, run_underlying hu, Result.andThen_ok, Instr.slice, this, run_sizeOf hk, Sem.run_pure]
          congr 2
          split
          · rfl
          · simp [add_none]
        · refine .dat sz _ _ b _ _ c e' fr (fun i j => us (i + l.toNat) j) hb hc (by omega) (fun i hi => hlen _ (by omega)) (fun i j hi hj => ?_) (fun i j hi hj => h1 _ _ (by omega) hj) (fun i j d hi hj => hd _ _ _ (by omega) hj)
          have : ¬ cap = l.toNat := by omega
          rw [if_neg this]
          have := hus (i + l.toNat) j (by omega) hj
          rw [Nat.add_mul] at this
          rw [show o + l.toNat * sz + i * sz + j = o + (i * sz + l.toNat * sz) + j by omega]
          exact this
    · exact .none
  · rename_i e l hu hlo
    cases hx with
    | d _ _ hx =>
    cases hx
    split
    · rename_i hh k hhi hk
      have hl := fix (bound_ok h hlo)
      have hh' := fix (bound_ok h hhi)
      refine .pureIf (u := .slice none 0 0) fun hp => ⟨?_, .d _ _ .nils⟩
      obtain ⟨rfl, rfl⟩ := hp
      have := run_sliceBounds (P := P) (w := w) (isS := true) (len := 0) (cap := 0) hl hh' (by omega) (by omega) (by omega)
      simp [Instr.sliceAt, run_underlying hu, Instr.slice, this, run_sizeOf hk]
    · exact .none
  · exact .none

theorem run_getObj {P : Program} {w : World} {b : Nat} {es : Array MapEntry} {clock : Nat} (h : w.heap[b]? = some (.map es clock)) : (getObj b).run P w = .ok (.map es clock) w := by
  simp [getObj, Sem.run, h]

theorem run_checkKey {P : Program} {w : World} {t : TypeId} {k k' : IntKind} (h : P.underlying t = some (.int k)) (b : Bool) (m : Int) : ∀ d, (Instr.checkKey b (d + 1) t (.int k' m)).run P w = .ok () w := fun d => by
  simp [Instr.checkKey, run_underlying h]

theorem lookupF_ok {P : Program} {cx : Cx} {g : G} {st : St} {a : Act} {w : World} (h : Sat cx g st a w) (t : TypeId) (ok : Bool) {x i : AV} {u v : Value} (hx : ValR g w x u) (hi : ValR g w i v) :
    RunOk P g w (Instr.lookup t u v ok) (lookupF P st t x i ok) := by
  unfold lookupF
  have tup : ∀ (d : D) (u : Value) (b : Bool), DRel g.I w d u → DRel g.I w (bif ok then .tup [d, .bool b] else d) (if ok then .tuple #[u, .bool b] else u) := fun d u b hd => by
    cases ok
    · exact hd
    · refine .tup _ [u, .bool b] rfl fun i x y hx hy => ?_
      match i with
      | 0 => simp at hx hy; subst hx; subst hy; exact hd
      | 1 => simp at hx hy; subst hx; subst hy; exact .bool b
      | n + 2 => simp at hx
  split
  · rename_i kt e k m hu
    cases hi with
    | d _ _ hi =>
    cases hi
    split
    · rename_i k1 z hkt hz
      obtain ⟨i, zv, hi, hzv, hof⟩ := zero_of hz
      have hck : ∀ b, (Instr.checkKey b 10000 kt (.int k m)).run P w = .ok () w := fun b => run_checkKey hkt b m 9999
      split
      · rename_i s c
        cases hx
        split
        · rename_i k2 look hs
          cases hk : kindEq k k2 && kindEq k k1 with
          | false => exact .none
          | true =>
            simp at hk
            have e1 := kindEq_eq hk.1; subst e1
            have e2 := kindEq_eq hk.2; subst e2
            obtain ⟨⟨b, es, clock, hv, -, hb, hl⟩, -⟩ := mapAt_own h hs
            have hlm := hl m
            have hrun : ∀ r, Instr.findNow (.int k) (.int k m) es.toList 0 = some r → (Instr.lookup t (g.val s c) (.int k m) ok).run P w =
                (match r with | some (_, v) => .ok (if ok then .tuple #[v, .bool true] else v) w | none => .ok (if ok then .tuple #[zv, .bool false] else zv) w) := fun r hr => by
              rw [hv]
              cases r with
              | none => simp [Instr.lookup, run_underlying hu, run_getObj hb, hck, Instr.findKey, run_underlying hkt, hr, run_zeroValue hi hzv]
              | some p => simp [Instr.lookup, run_underlying hu, run_getObj hb, hck, Instr.findKey, run_underlying hkt, hr]
            split
            · rename_i d hd
              rw [hd] at hlm
              obtain ⟨j, en, h1, h2, h3⟩ := hlm
              exact .pure (hrun _ h1) (.d _ _ (tup d _ true h3))
            · rename_i hd
              rw [hd] at hlm
              exact .pure (hrun _ hlm) (.d _ _ (tup z _ false (ofValue_rel _ _ hof)))
        · exact .none
      · cases hx with
        | d _ _ hx =>
        cases hx
        cases hk : kindEq k k1 with
        | false => exact .none
        | true =>
          have e1 := kindEq_eq hk; subst e1
          refine .pure (u := if ok then .tuple #[zv, .bool false] else zv) ?_ (.d _ _ (tup z _ false (ofValue_rel _ _ hof)))
          simp [Instr.lookup, run_underlying hu, hck, Instr.findKey, run_underlying hkt, Instr.findNow, run_zeroValue hi hzv]
      · exact .none
    · exact .none
  · exact .none

theorem lenF_ok {P : Program} {cx : Cx} {g : G} {st : St} {a : Act} {w : World} (h : Sat cx g st a w) (t ty : TypeId) {x : AV} {u : Value} (hx : ValR g w x u) :
    RunOk P g w (Builtin.len_ #[t] ty #[u]) (lenF P st t x) := by
  unfold lenF
  split
  · rename_i s hu
    cases hx with
    | d _ _ hx => cases hx; exact .pure (u := .int .i64 s.size) (by simp [Builtin.len_, run_underlying hu, goInt]) (.d _ _ (.int _ _))
  · rename_i e sz n get hu
    cases hx with
    | d _ _ hx =>
      cases hx
      · exact .pure (u := .int .i64 n) (by simp [Builtin.len_, run_underlying hu, goInt]) (.d _ _ (.int _ _))
      · exact .pure (u := .int .i64 0) (by simp [Builtin.len_, run_underlying hu, goInt]) (.d _ _ (.int _ _))
      · exact .pure (u := .int .i64 0) (by simp [Builtin.len_, run_underlying hu, goInt]) (.d _ _ (.int _ _))
  · rename_i e hu
    cases hx with
    | d _ _ hx => cases hx; exact .pure (u := .int .i64 0) (by simp [Builtin.len_, run_underlying hu, goInt]) (.d _ _ (.int _ _))
  · rename_i e s c hu
    cases hx
    split
    · rename_i sz n get hs
      obtain ⟨⟨b, o, cap, cc, e', hv, -⟩, -⟩ := sliceAt_own h hs
      exact .pure (u := .int .i64 n) (by rw [hv]; simp [Builtin.len_, run_underlying hu, goInt]) (.d _ _ (.int _ _))
    · exact .none
  · exact .none

theorem foldInts_ok {P : Program} {g : G} {w : World} {f : Int → Int → Int} {f2 : Value → Value → Sem Value} (hf : ∀ k a k' b, f2 (.int k a) (.int k' b) = pure (.int k (f a b))) {k : IntKind} :
    ∀ (l : List AV) (us : List Value) (a m : Int), us.length = l.length → (∀ (i : Nat) (x : AV) (u : Value), l[i]? = some x → us[i]? = some u → ValR g w x u) → foldInts f k a l = some m →
      (us.foldlM f2 (.int k a)).run P w = .ok (.int k m) w
  | [], us, a, m, hl, _, h => by
    have : us = [] := List.length_eq_zero_iff.mp hl
    subst this; simp [foldInts] at h; subst h; rfl
  | x :: r, us, a, m, hl, hr, h => by
    cases us with
    | nil => simp at hl
    | cons u us =>
      unfold foldInts at h
      split at h
      · rename_i heq; simp at heq
      · rename_i k' y r' heq
        simp at heq
        obtain ⟨rfl, rfl⟩ := heq
        cases hk : kindEq k k' with
        | false => simp [hk] at h
        | true =>
          simp only [hk, cond_true] at h
          have h0 := hr 0 _ u rfl rfl
          cases h0 with
          | d _ _ h0 =>
          cases h0
          simp only [List.foldlM_cons, hf, pure_bind]
          exact foldInts_ok hf r us _ m (by simpa using hl) (fun i x u hx hu => hr (i + 1) x u (by simpa using hx) (by simpa using hu)) h
      · simp at h

def foldS (f2 : Value → Value → Sem Value) (why : String) : List Value → Sem Value
  | [] => stuck why
  | x :: rest => rest.foldlM f2 x

theorem foldR_ok {P : Program} {g : G} {w : World} {f : Int → Int → Int} {f2 : Value → Value → Sem Value} (hf : ∀ k a k' b, f2 (.int k a) (.int k' b) = pure (.int k (f a b))) {l : List AV} {us : List Value}
    (hl : us.length = l.length) (hr : ∀ (i : Nat) (x : AV) (u : Value), l[i]? = some x → us[i]? = some u → ValR g w x u) (why : String) :
    RunOk P g w (foldS f2 why us) (foldR f l) := by
  cases us with
  | nil =>
    cases l with
    | nil => exact .none
    | cons x r => simp at hl
  | cons u us =>
    cases l with
    | nil => simp at hl
    | cons x r =>
      have h0 := hr 0 _ u rfl rfl
      show RunOk P g w (us.foldlM f2 u) _
      unfold foldR
      split
      · rename_i k a r' heq
        simp at heq
        obtain ⟨rfl, rfl⟩ := heq
        cases h0 with
        | d _ _ h0 =>
        cases h0
        split
        · rename_i m hm
          exact .pure (foldInts_ok hf r us a m (by simpa using hl) (fun i x u hx hu => hr (i + 1) x u (by simpa using hx) (by simpa using hu)) hm) (.d _ _ (.int _ _))
        · exact .none
      · exact .none

end AM

/- AM: quiet operations: literals; all of them together. -/
namespace AM
open Go

/-- rows of cells that fit -/
def CsR (I : Nat → Prop) (w : World) (cs : List D) (us : List Value) : Prop :=
  us.length = cs.length ∧ ∀ (i : Nat) (d : D) (u : Value), cs[i]? = some d → us[i]? = some u → DRel I w d u

theorem CsR.set {I : Nat → Prop} {w : World} {cs : List D} {us : List Value} (h : CsR I w cs us) (k : Nat) {d : D} {u : Value} (hd : DRel I w d u) : CsR I w (cs.set k d) (us.set k u) := by
  refine ⟨by simp [h.1], fun i d' u' h1 h2 => ?_⟩
  rw [List.getElem?_set] at h1 h2
  by_cases hk : k = i
  · subst hk
    simp at h1 h2
    rw [← h1.2, ← h2.2]; exact hd
  · rw [if_neg hk] at h1 h2
    exact h.2 i d' u' h1 h2

theorem CsR.sets {I : Nat → Prop} {w : World} : ∀ (ds : List D) (vs : List Value) (cs : List D) (us : List Value) (off k : Nat), CsR I w cs us → CsR I w ds vs →
    CsR I w (setDs cs (off + k) ds) ((vs.zipIdx k).foldl (fun (cs : List Value) (p : Value × Nat) => cs.set (off + p.2) p.1) us)
  | [], vs, cs, us, off, k, h, h2 => by
    have : vs = [] := List.length_eq_zero_iff.mp h2.1
    subst this; exact h
  | d :: ds, vs, cs, us, off, k, h, h2 => by
    cases vs with
    | nil => have := h2.1; simp at this
    | cons v vs =>
      simp only [setDs, List.zipIdx_cons, List.foldl_cons]
      exact CsR.sets ds vs _ _ off (k + 1) (h.set _ (h2.2 0 d v rfl rfl)) ⟨by have := h2.1; simpa using this, fun i d' u' h3 h4 => h2.2 (i + 1) d' u' (by simpa using h3) (by simpa using h4)⟩

theorem fold_set (off : Nat) : ∀ (l : List (Value × Nat)) (us : List Value),
    l.foldl (fun (cs : Array Value) (p : Value × Nat) => cs.setIfInBounds (off + p.2) p.1) us.toArray = (l.foldl (fun (cs : List Value) (p : Value × Nat) => cs.set (off + p.2) p.1) us).toArray
  | [], us => rfl
  | p :: l, us => by
    simp only [List.foldl_cons]
    rw [List.setIfInBounds_toArray]
    exact fold_set off l _

theorem one_cell {I : Nat → Prop} {w : World} {d : D} {v : Value} (h : DRel I w d v) (hd : d.one = true) : v.oneCell' = true := by
  cases h <;> first | rfl | simp [D.one] at hd

theorem allOne_mem : ∀ (l : List D), allOne l = true → ∀ x ∈ l, x.one = true
  | [], _, x, hx => by simp at hx
  | y :: l, h, x, hx => by
    simp [allOne] at h
    rcases List.mem_cons.mp hx with rfl | hx
    · exact h.1
    · exact allOne_mem l h.2 x hx

theorem fold_one {off : Nat} : ∀ (l : List (Value × Nat)) (us : List Value), (∀ u ∈ us, u.oneCell' = true) → (∀ p ∈ l, p.1.oneCell' = true) →
    ∀ u ∈ l.foldl (fun (cs : List Value) (p : Value × Nat) => cs.set (off + p.2) p.1) us, u.oneCell' = true
  | [], us, h, _ => h
  | p :: l, us, h, h2 => fold_one l _ (fun u hu => by
      rcases List.mem_or_eq_of_mem_set hu with hu | rfl
      · exact h u hu
      · exact h2 p (List.mem_cons_self ..)) (fun q hq => h2 q (List.mem_cons_of_mem _ hq))

theorem fill_ok {I : Nat → Prop} {w : World} {place : Nat → Option (Nat × Nat)} : ∀ (ds : List (Nat × D)) (vs : List (Nat × Value)) (cs cs' : List D) (us : List Value),
    fillD place cs ds = some cs' → CsR I w cs us → vs.length = ds.length → (∀ (i : Nat) (p : Nat × D) (q : Nat × Value), ds[i]? = some p → vs[i]? = some q → p.1 = q.1 ∧ DRel I w p.2 q.2) →
    ∃ us' : List Value, Instr.fill place us.toArray vs = some us'.toArray ∧ CsR I w cs' us' ∧ ((∀ u ∈ us, u.oneCell' = true) → ∀ u ∈ us', u.oneCell' = true)
  | [], vs, cs, cs', us, h, h1, hl, _ => by
    have : vs = [] := List.length_eq_zero_iff.mp hl
    subst this
    simp [fillD] at h; subst h
    exact ⟨us, rfl, h1, fun h => h⟩
  | (i, d) :: ds, vs, cs, cs', us, h, h1, hl, hr => by
    cases vs with
    | nil => simp at hl
    | cons q vs =>
      obtain ⟨i', v⟩ := q
      obtain ⟨e1, e2⟩ := hr 0 (i, d) (i', v) rfl rfl
      simp at e1 e2; subst e1
      simp only [fillD] at h
      split at h
      · simp at h
      · rename_i off size hp
        cases hb : Nat.beq d.cells.length size && (Nat.ble (off + size) cs.length && allOne d.cells) with
        | false => simp [hb] at h
        | true =>
          simp only [hb, cond_true] at h
          simp at hb
          obtain ⟨hb1, hb2, hb3⟩ := hb
          have hg : d.good = true := by
            cases d <;> simp_all [D.good, D.one, D.cells, allOne]
          obtain ⟨hc1, hc2⟩ := cells_rel e2 hg
          have hsz : v.cells.size = size := by rw [← hb1, ← hc1]; simp
          obtain ⟨us', h3, h4, h5⟩ := fill_ok ds vs (setDs cs off d.cells) cs' ((v.cells.toList.zipIdx 0).foldl (fun (cs : List Value) (p : Value × Nat) => cs.set (off + p.2) p.1) us) h
            (CsR.sets d.cells v.cells.toList cs us off 0 h1 ⟨hc1, hc2⟩) (by simpa using hl) (fun i p q h5 h6 => hr (i + 1) p q (by simpa using h5) (by simpa using h6))
          refine ⟨us', ?_, h4, fun hone => h5 (fold_one _ _ hone fun p hp => ?_)⟩
          rotate_left
          · have hmem : p.1 ∈ v.cells.toList := by
              obtain ⟨i, hi, rfl⟩ := List.getElem_of_mem hp
              simp
            obtain ⟨i, hi, he⟩ := List.getElem_of_mem hmem
            have hi' : i < d.cells.length := by omega
            rw [← he]
            exact one_cell (hc2 i d.cells[i] _ (by simp [hi']) (by simp)) (allOne_mem _ hb3 _ (by simp))
          simp only [Instr.fill, hp]
          have hc : (v.cells.size ≠ size || decide (off + v.cells.size > us.toArray.size)) = false := by
            simp [hsz, h1.1]; omega
          rw [if_neg (by rw [hc]; simp)]
          rw [← h3, ← fold_set, ← Array.foldl_toList]
          simp

theorem bytes_run {P : Program} {I : Nat → Prop} {w : World} {s e d : TypeId} {n cap b o : Nat} {get : Nat → D} {c : Array Value} {e' : TypeId} {fr : Nat × Nat} (hs : P.underlying s = some (.slice e)) (he : P.underlying e = some (.int .u8))
    (hd : P.underlying d = some .string) (hc : w.heap[b]? = some (.cells c e' fr)) (hu : ∀ i, i < n → ∃ u, c[o + i]? = some u ∧ DRel I w (get i) u) (hp : ∀ i, i < n → isU8 (get i) = true) :
    (convert s d (.slice (some ⟨b, o, none⟩) n cap)).run P w = .ok (.string (bytesStr n get)) w := by
  refine run_convert_bytes_arg w s e hs he b o n cap _ (by simp) (fun i hi => ?_) d hd
  obtain ⟨u, h1, h2⟩ := hu i hi
  rw [cell_of_block hc, h1, List.getD_eq_getElem?_getD, List.getElem?_map, List.getElem?_range hi]
  have := hp i hi
  simp only [Option.map_some, Option.getD_some]
  generalize get i = x at this h2
  cases h2 <;> first | (simp [isU8] at this; done) | skip
  rename_i k m
  cases k <;> first | (simp [isU8] at this; done) | rfl

theorem convB_ok {P : Program} {cx : Cx} {g : G} {st : St} {a : Act} {w : World} (h : Sat cx g st a w) {x : AV} {u : Value} (s d : TypeId) (hx : ValR g w x u) : RunOk P g w (convert s d u) (convB P st s d x) := by
  unfold convB
  split
  · rename_i e hs hd
    split
    · rename_i sz n get he hsrc
      cases hz : Nat.beq sz 1 with
      | false => exact .none
      | true =>
        have := Nat.eq_of_beq_eq_true hz; subst this
        refine .pureIf (u := .string (bytesStr n get)) fun hp => ⟨?_, .d _ _ (.str _)⟩
        have cell0 : ∀ i, i < n → (get i).cells[0]? = some (get i) := fun i hi => by
          have := hp i hi
          cases hg : get i <;> rw [hg] at this <;> first | rfl | simp [isU8] at this
        unfold srcBytes at hsrc
        split at hsrc
        · simp only [Option.some.injEq, Prod.mk.injEq] at hsrc
          obtain ⟨rfl, rfl, rfl⟩ := hsrc
          cases hx with
          | d _ _ hx =>
          cases hx with
          | dat0 => rw [run_convert_bytes_nil w s e hs he 0 0 d hd]; rfl
          | datE _ cap _ ad =>
            obtain ⟨b, o, sp⟩ := ad
            rw [run_convert_bytes_string w s d e _ 0 cap hs he hd]
            simp [Conv.bytesToString, loadCells, loadCellsFrom]
            rfl
          | dat _ _ _ b o cap c e' fr us hb hc hn hlen hus h1 hdd =>
            exact bytes_run hs he hd hc (fun i hi => ⟨us i 0, by have := hus i 0 hi (by omega); simpa using this, hdd i 0 _ hi (cell0 i hi)⟩) hp
        · cases hx
          obtain ⟨⟨b, o, cap, c, e', hv, hn, -, hc, -, hl, -, hd'⟩, -⟩ := sliceAt_own h hsrc
          rw [hv]
          exact bytes_run hs he hd hc (fun i hi => by
            obtain ⟨u, h1, h2⟩ := hd' i 0 _ hi (cell0 i hi)
            exact ⟨u, by simpa using h1, h2⟩) hp
        · simp at hsrc
    · exact .none
  · exact convF_ok s d hx

theorem szAll_ok {P : Program} {w : World} : ∀ (fs : List Field) (l : List (Nat × Nat)), szAll P fs = some l →
    (fs.mapM fun f => do pure (f.offset, ← Go.sizeOf f.type) : Sem (List (Nat × Nat))).run P w = .ok l w
  | [], l, h => by simp [szAll] at h; subst h; rfl
  | f :: r, l, h => by
    simp only [szAll] at h
    split at h
    · rename_i k l' hk hl
      simp at h; subst h
      have ih := szAll_ok (P := P) (w := w) r l' hl
      simp only [List.mapM_cons, Sem.run_bind, run_sizeOf hk, Result.andThen_ok, Sem.run_pure, ih]
    · simp at h

theorem partDs_ok {cx : Cx} {g : G} {st : St} {a : Act} {w : World} (h : Sat cx g st a w) : ∀ (parts : List (Nat × Operand)) (ds : List (Nat × D)), partDs cx.N st parts = some ds →
    parts.length = ds.length ∧ ∀ (i : Nat) (p : Nat × D) (q : Nat × Value), ds[i]? = some p → (parts.map fun (i, x) => (i, a.eval x))[i]? = some q → p.1 = q.1 ∧ DRel g.I w p.2 q.2
  | [], ds, hp => by simp [partDs] at hp; subst hp; exact ⟨rfl, fun i p q h => by simp at h⟩
  | (i, x) :: r, ds, hp => by
    simp only [partDs] at hp
    split at hp
    · rename_i d hd
      split at hp
      · rename_i ds' hds
        simp at hp; subst hp
        obtain ⟨h1, h2⟩ := partDs_ok h r ds' hds
        refine ⟨by simp [h1], fun j p q h3 h4 => ?_⟩
        cases j with
        | zero =>
          simp at h3 h4; subst h3; subst h4
          refine ⟨rfl, ?_⟩
          have := ev_rel h x
          generalize ev cx.N st x = y at hd this
          unfold toD2 at hd
          split at hd
          · simp at hd; subst hd
            cases this with | d _ _ h => exact h
          · split at hd
            · rename_i ds2 hds2
              simp at hd; subst hd
              obtain ⟨h5, h6⟩ := toDs_get hds2
              generalize a.eval x = u at this
              cases this with
              | agg _ us h7 h8 =>
                refine .agg ds2 us (h7.trans h5.symm) fun i d u hd hu => ?_
                have := h8 i _ u (h6 i d hd) hu
                cases this with | d _ _ h => exact h
            · simp at hd
          · simp at hd
        | succ j => simp at h3; exact h2 j p q h3 (by simpa using h4)
      · simp at hp
    · simp at hp

theorem buildF_ok {P : Program} {cx : Cx} {g : G} {st : St} {a : Act} {w : World} (h : Sat cx g st a w) (t : TypeId) (parts : Array (Nat × Operand)) :
    RunOk P g w (Instr.build t (parts.map fun (i, x) => (i, a.eval x))) (buildF P cx.N st t parts.toList) := by
  unfold buildF
  split
  · rename_i z pl ds hz hpl hds
    obtain ⟨i, zv, hi, hzv, hof⟩ := zero_of hz
    have hzr : DRel g.I w (.agg z) zv := ofValue_rel zv _ hof
    obtain ⟨hl, hr⟩ := partDs_ok h _ _ hds
    split
    · rename_i cs hcs
      cases hzr with
      | agg _ us hul hur =>
      obtain ⟨us', h1, h2, -⟩ := fill_ok (I := g.I) (w := w) ds (parts.toList.map fun (i, x) => (i, a.eval x)) z cs us hcs ⟨hul, hur⟩ (by simp [hl]) hr
      refine .pure (u := .agg ⟨us'⟩) ?_ (.d _ _ (.agg _ _ h2.1 h2.2))
      have hpt : (parts.map fun (i, x) => (i, a.eval x)).toList = parts.toList.map fun (i, x) => (i, a.eval x) := by simp
      unfold placeOf at hpl
      split at hpl
      · rename_i fs hu
        split at hpl
        · rename_i l hl'
          simp at hpl; subst hpl
          have hm := szAll_ok (P := P) (w := w) fs.toList l hl'
          simp only [Instr.build, Sem.run_bind, run_zeroValue hi hzv, Result.andThen_ok, run_underlying hu]
          rw [Array.mapM_eq_mapM_toList]
          simp only [Sem.run_map, hm, Result.andThen_ok, hpt]
          have : (fun (x : Nat) => l.toArray[x]?) = fun (i : Nat) => l[i]? := by funext i; simp
          rw [this]
          simp only [Value.cells]
          rw [h1]; rfl
        · simp at hpl
      · rename_i n e hu
        split at hpl
        · rename_i k hk
          simp at hpl; subst hpl
          simp only [Instr.build, Sem.run_bind, run_zeroValue hi hzv, Result.andThen_ok, run_underlying hu, run_sizeOf hk, hpt, Value.cells]
          rw [h1]; rfl
        · simp at hpl
      · simp at hpl
    · exact .none
  · exact .none

theorem ofValue_good {v : Value} {d : D} (h : ofValue v = some d) : d.good = true := by
  unfold ofValue at h
  split at h <;> simp at h
  case h_10 => obtain ⟨x, -, rfl⟩ := h; rfl
  all_goals (subst h; rfl)

theorem setDs_len : ∀ (ds : List D) (cs : List D) (o : Nat), (setDs cs o ds).length = cs.length
  | [], _, _ => rfl
  | d :: ds, cs, o => by simp [setDs, setDs_len ds]

theorem fillD_len {pl : Nat → Option (Nat × Nat)} : ∀ (ds : List (Nat × D)) (cs cs' : List D), fillD pl cs ds = some cs' → cs'.length = cs.length
  | [], cs, cs', h => by simp [fillD] at h; rw [h]
  | (i, d) :: ds, cs, cs', h => by
    simp only [fillD] at h
    split at h
    · simp at h
    · rename_i off size _
      cases hb : Nat.beq d.cells.length size && (Nat.ble (off + size) cs.length && allOne d.cells) with
      | false => simp only [hb, cond_false] at h; simp at h
      | true =>
        simp only [hb, cond_true] at h
        rw [fillD_len ds _ _ h, setDs_len]

theorem zeros_len (z : List D) : ∀ n, (zeros n z).length = n * z.length
  | 0 => by simp [zeros]
  | n + 1 => by simp [zeros, zeros_len z n, Nat.add_mul, Nat.add_comm]

theorem zeros_get (z : List D) : ∀ n i, i < n * z.length → (zeros n z)[i]? = z[i % z.length]?
  | 0, i, h => by simp at h
  | n + 1, i, h => by
    simp only [zeros]
    by_cases hi : i < z.length
    · rw [List.getElem?_append_left hi, Nat.mod_eq_of_lt hi]
    · have hi' := Nat.le_of_not_lt hi
      rw [List.getElem?_append_right hi', zeros_get z n (i - z.length) (by rw [Nat.add_mul] at h; omega)]
      congr 1
      exact (Nat.mod_eq_sub_mod hi').symm

theorem one1_cells (d : D) : (one1 d).cells = [one1 d] := by cases d <;> rfl

theorem nth_eq : ∀ {cs : List D} {i : Nat} (h : i < cs.length), nth .und cs i = cs[i]
  | c :: cs, 0, _ => rfl
  | c :: cs, i + 1, h => by
    show nth .und cs i = _
    rw [nth_eq (by simpa using h)]; rfl

theorem notAgg_len {z : D} (h : isAggD z = false) : z.cells.length = 1 := by
  cases z <;> first | rfl | simp [isAggD] at h

theorem chunk_len {z : D} {k n i : Nat} {cs : List D} (hzk : z.cells.length = k) (hl : cs.length = n * k) (hi : i < n) : (chunk (isAggD z) k cs i).cells.length = k := by
  cases hz : isAggD z with
  | true =>
    simp only [chunk, cond_true, D.cells, List.length_take, List.length_drop, hl]
    have : i * k + k ≤ n * k := by rw [← Nat.succ_mul]; exact Nat.mul_le_mul_right _ hi
    omega
  | false =>
    have hk := notAgg_len hz
    rw [hzk] at hk; subst hk
    simp [chunk, one1_cells]

theorem chunk_get {z : D} {k n i j : Nat} {cs : List D} {d : D} (hzk : z.cells.length = k) (hl : cs.length = n * k) (hi : i < n) (hj : (chunk (isAggD z) k cs i).cells[j]? = some d) :
    ∃ d', cs[i * k + j]? = some d' ∧ (d = d' ∨ d = .und) := by
  cases hz : isAggD z with
  | true =>
    simp only [chunk, hz, cond_true, D.cells, List.getElem?_take] at hj
    split at hj
    · rw [List.getElem?_drop] at hj; exact ⟨d, hj, .inl rfl⟩
    · simp at hj
  | false =>
    have hk := notAgg_len hz
    rw [hzk] at hk
    simp only [chunk, hz, cond_false, one1_cells] at hj
    cases j with
    | succ j => simp at hj
    | zero =>
      simp at hj; subst hj
      have : i < cs.length := by rw [hl, hk]; omega
      refine ⟨cs[i], by rw [hk]; simp [this], ?_⟩
      rw [nth_eq this]
      cases cs[i] <;> first | exact .inl rfl | exact .inr rfl

theorem run_buildSlice {P : Program} {w : World} {t e : TypeId} {n k : Nat} {i : TypeInfo} {zv : Value} {parts : Array (Nat × Value)} {us0 us : List Value}
    (hu : P.underlying t = some (.slice e)) (hi : P.info? e = some i) (hzv : i.zero = some zv) (hk : szT P e = some k) (hzs : zv.cells.size = k) (hnk : n * k ≤ 16777216)
    (h0 : us0 = (List.range (n * k)).map fun j => zv.cells.toList.getD (j % k) default)
    (h1 : Instr.fill (fun i => some (i * k, k)) us0.toArray parts.toList = some us.toArray) :
    (Instr.buildSlice t n parts).run P w = .ok (.slice (some ⟨w.heap.size, 0, none⟩) n n) { w with heap := w.heap.push (.cells us.toArray e) } := by
  have hgt : ¬ n * k > 2 ^ 24 := by omega
  by_cases hnz : n * k = 0
  · have e1 : (Array.range (n * k)).map (fun j => (#[] : Array Value)[j % (#[] : Array Value).size]!) = us0.toArray := by simp [hnz, h0]
    simp only [Instr.buildSlice, Sem.run_bind, run_underlying hu, Result.andThen_ok, run_sizeOf hk, hgt, if_false, Sem.run_pure, if_pos hnz]
    rw [e1, h1]
    simp [newRow]
  · have e1 : (Array.range (n * k)).map (fun j => zv.cells[j % zv.cells.size]!) = us0.toArray := by
      apply Array.ext'
      simp only [hzs, h0, Array.toList_map, Array.toList_range]
      apply List.map_congr_left
      intro j hj
      simp [getElem!_def, List.getD_eq_getElem?_getD]
      cases zv.cells[j % k]? <;> rfl
    simp only [Instr.buildSlice, Sem.run_bind, run_underlying hu, Result.andThen_ok, run_sizeOf hk, hgt, if_false, Sem.run_pure, if_neg hnz, run_zeroValue hi hzv]
    rw [e1, h1]
    simp [newRow]

theorem sliceElem_spec {P : Program} {t e : TypeId} (he : sliceElem P t = some e) : P.underlying t = some (.slice e) := by
  unfold sliceElem at he
  split at he
  · rename_i e' hu; simp at he; rw [hu, he]
  · simp at he

theorem zeros_rel {I : Nat → Prop} {w : World} {z : D} {zv : Value} {k n : Nat} (hzr : DRel I w z zv) (hzg : z.good = true) (hzk : z.cells.length = k) :
    CsR I w (zeros n z.cells) ((List.range (n * k)).map fun j => zv.cells.toList.getD (j % k) default) := by
  have hcz := cells_rel hzr hzg
  refine ⟨by simp [zeros_len, hzk], fun j d u h1 h2 => ?_⟩
  obtain ⟨hj, hju⟩ := range_map_get h2
  have hk0 : 0 < k := by
    rcases Nat.eq_zero_or_pos k with h | h
    · subst h; simp at hj
    · exact h
  rw [zeros_get _ _ _ (by rw [hzk]; exact hj), hzk] at h1
  have hm : j % k < zv.cells.toList.length := by rw [hcz.1, hzk]; exact Nat.mod_lt _ hk0
  refine hcz.2 (j % k) d u h1 ?_
  rw [← hju, List.getD_eq_getElem?_getD, List.getElem?_eq_getElem hm]; rfl

theorem zeros_one {I : Nat → Prop} {w : World} {z : D} {zv : Value} {k n : Nat} (hzr : DRel I w z zv) (hzg : z.good = true) (hzk : z.cells.length = k) (h1 : allOne z.cells = true) :
    ∀ u ∈ (List.range (n * k)).map fun j => zv.cells.toList.getD (j % k) default, u.oneCell' = true := by
  intro u hu
  have hcz := cells_rel hzr hzg
  simp only [List.mem_map, List.mem_range] at hu
  obtain ⟨j, hj, rfl⟩ := hu
  have hk0 : 0 < k := by
    rcases Nat.eq_zero_or_pos k with h | h
    · subst h; simp at hj
    · exact h
  have hm' : j % k < z.cells.length := by rw [hzk]; exact Nat.mod_lt _ hk0
  have hm : j % k < zv.cells.toList.length := by rw [hcz.1]; exact hm'
  rw [List.getD_eq_getElem?_getD, List.getElem?_eq_getElem hm]
  exact one_cell (hcz.2 (j % k) z.cells[j % k] _ (by simp [hm']) (by simp)) (allOne_mem _ h1 _ (by simp))

/-- a new row of cells owns its block -/
theorem own_new {I : Nat → Prop} {w w' : World} {z : D} {k n : Nat} {cs : List D} {us : List Value} {e : TypeId} (hzk : z.cells.length = k) (hl : cs.length = n * k)
    (h2 : CsR I w cs us) (hone : ∀ u ∈ us, u.oneCell' = true) (hw' : w'.heap = w.heap.push (.cells us.toArray e)) (hI : ∀ b, I b → b < w.heap.size) :
    OwnR I w' k n (chunk (isAggD z) k cs) (.slice (some ⟨w.heap.size, 0, none⟩) n n) := by
  have hw : ∀ b, I b → w'.heap[b]? = w.heap[b]? := fun b hb => by
    have := hI b hb
    rw [hw', Array.getElem?_push]
    split
    · omega
    · rfl
  refine ⟨w.heap.size, 0, n, us.toArray, e, rfl, Nat.le_refl _, fun hb => Nat.lt_irrefl _ (hI _ hb), by simp [hw'], by simp [h2.1, hl], fun i hi => chunk_len hzk hl hi, fun i j hi hj => ?_, fun i j d hi hj => ?_⟩
  · have hle : i * k + k ≤ n * k := by rw [← Nat.succ_mul]; exact Nat.mul_le_mul_right _ hi
    have hlt : i * k + j < us.length := by rw [h2.1, hl]; omega
    exact ⟨us[i * k + j], by simp [hlt], hone _ (by simp)⟩
  obtain ⟨d', h3, h4⟩ := chunk_get hzk hl hi hj
  have hlt : i * k + j < us.length := by rw [h2.1]; exact (List.getElem?_eq_some_iff.mp h3).1
  refine ⟨us[i * k + j], by simp [hlt], ?_⟩
  rcases h4 with rfl | rfl
  · exact (h2.2 _ _ _ h3 (by simp [hlt])).world hw
  · exact .und _

theorem buildSliceF_ok {P : Program} {cx : Cx} {g : G} {st : St} {a : Act} {w : World} (h : Sat cx g st a w) (t : TypeId) (n : Nat) (parts : Array (Nat × Operand)) :
    RunOk P g w (Instr.buildSlice t n (parts.map fun (i, x) => (i, a.eval x))) (buildSliceF P cx.N st t n parts.toList) := by
  unfold buildSliceF
  have hI : ∀ b, g.I b → b < w.heap.size := fun b hb => (h.stays b hb).1
  split
  · rename_i e he
    have hu := sliceElem_spec he
    split
    · rename_i z ds k hz hds hk
      cases hb : Nat.beq z.cells.length k && (Nat.ble (n * k) 16777216 && allOne z.cells) with
      | false => exact .none
      | true =>
        simp at hb
        obtain ⟨hzk, hnk, hz1⟩ := hb
        obtain ⟨i, zv, hi, hzv, hof⟩ := zero_of hz
        have hzr : DRel g.I w z zv := ofValue_rel zv _ hof
        have hzg : z.good = true := ofValue_good hof
        obtain ⟨hl, hr⟩ := partDs_ok h _ _ hds
        simp only [cond_true]
        split
        · rename_i cs hcs
          have hzs : zv.cells.size = k := by rw [← hzk, ← (cells_rel hzr hzg).1]; simp
          obtain ⟨us, h1, h2, h3⟩ := fill_ok (I := g.I) (w := w) ds (parts.toList.map fun (i, x) => (i, a.eval x)) _ cs _ hcs (zeros_rel (n := n) hzr hzg hzk) (by simp [hl]) hr
          have hlen : cs.length = n * k := by rw [fillD_len _ _ _ hcs, zeros_len, hzk]
          have hrun := run_buildSlice (w := w) (parts := parts.map fun (i, x) => (i, a.eval x)) (us := us) hu hi hzv hk hzs hnk rfl (by rw [← h1]; simp)
          exact .okR ⟨_, _, hrun, ⟨rfl, rfl, rfl⟩, ⟨_, rfl⟩, rfl, own_new hzk hlen h2 (h3 (zeros_one hzr hzg hzk hz1)) rfl hI⟩
        · exact .none
    · exact .none
  · exact .none

end AM
