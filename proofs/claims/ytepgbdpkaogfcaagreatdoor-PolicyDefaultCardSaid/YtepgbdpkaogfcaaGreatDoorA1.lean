/-
  An own logic of abstract values and what is proved with it: the bench texts V1, V2, V3, V4, V5, V6.
-/
import Derived.Calls
import Derived.Tactics
import Derived.Below
import Derived.Laws.Cells
import Derived.Laws.CopyRow
import Derived.Laws.Rows
import Derived.RowKit
import Derived.Deep.Draws
import Derived.Laws.Strings
import Derived.Lib.Strings
import Derived.IntWalk
set_option linter.unusedVariables false
set_option linter.unusedSimpArgs false
namespace Go.V

universe u v
/-- Abstract values. -/
inductive AV : Type 1 where
  | tt | ff
  | bool (b : Bool)
  | int (k : IntKind) (n : Int)
  | str (s : List UInt8)
  | slt {α : Type} (full : Bool) (t : TypeId) (enc : α → List AV) (l : List α)
  | nils
  | own (k off len : Nat)
  | box (k off : Nat)
  | elt (k i off : Nat)
  | rptr (cells : List AV) (off : Nat)
  | nilp
  | fn (f : FuncId) (first caps : List AV)
  | nilfn
  | nilm
  | mapr (k : Nat)
  | anyp
  | agg (cells : List AV)
  | tup (vs : List AV)
  | undef

/-- Does it lead to nothing that may change? -/
def AV.closed : AV → Bool
  | .tt | .ff | .bool _ | .int _ _ | .str _ | .slt _ _ _ _ | .nils | .nilp | .nilfn | .nilm => true
  | _ => false

inductive Obj : Type 1 where
  | box (t : TypeId) (cells : List AV)
  | arr {α : Type} (t : TypeId) (enc : α → List AV) (hc : ∀ x, (enc x).all AV.closed = true) (l : List α)
  | arrl (t : TypeId) (ls : List (List AV))
  | map (es : List (AV × AV))
  | dead

abbrev Env := List (Nat × AV)
abbrev Heap := List Obj

inductive TK where
  | bool | int (k : IntKind) | str | ptr | slice (e : Nat) | struct (fs : List (Nat × Nat)) | func | map (k e : Nat) | other
structure TI where
  cells : Nat
  bytes : Nat
  kind : TK
  zero : List AV

inductive Tree where
  | leaf
  | node (l : Tree) (t : Nat) (i : TI) (r : Tree)
def Tree.look : Tree → Nat → Option TI
  | .leaf, _ => none
  | .node l t i r, x => bif Nat.beq x t then some i else bif Nat.blt x t then l.look x else r.look x

/-- The types of a program, as they are asked; what its variables hold. -/
structure Ctx where
  tree : Tree
  globs : List (Addr × Value)
def Ctx.look (T : Ctx) (t : Nat) : Option TI := T.tree.look t

def get : Env → Nat → AV
  | [], _ => .undef
  | (s, v) :: r, t => bif Nat.beq s t then v else get r t

def hget (H : Heap) (k : Nat) : Go.V.Obj := (H[k]?).getD .dead

/-! ### What is read in the world -/
def bs (s : List UInt8) : ByteArray := ⟨⟨s⟩⟩
def maxS : Nat := 4611686018427387904
def maxB : Nat := 140737488355328

inductive All2 {α : Type u} {β : Type v} (R : α → β → Prop) : List α → List β → Prop
  | nil : All2 R [] []
  | cons {a b l m} : R a b → All2 R l m → All2 R (a :: l) (b :: m)

/-- A value that leads to nothing that may change: 'O' are the blocks that may. -/
inductive RepF (T : Ctx) (w : World) (O : Nat → Prop) : AV → Value → Prop
  | tt : RepF T w O .tt (.bool true)
  | ff : RepF T w O .ff (.bool false)
  | bool (b : Bool) : RepF T w O (.bool b) (.bool b)
  | int (k : IntKind) (n : Int) : RepF T w O (.int k n) (.int k n)
  | str (s : List UInt8) (h : s.length ≤ maxS) : RepF T w O (.str s) (.string (bs s))
  | nils : RepF T w O .nils (.slice none 0 0)
  | nilp : RepF T w O .nilp (.pointer none)
  | nilfn : RepF T w O .nilfn .nilFunc
  | nilm : RepF T w O .nilm (.map none)
  | slt {α : Type} (full : Bool) (t : TypeId) (enc : α → List AV) (l : List α) (a : Option Addr) (c : Nat) (ti : TI) (vs : Nat → Nat → Value)
      (hti : T.look t = some ti) (hsz : ∀ x, x ∈ l → (enc x).length = ti.cells) (hc0 : 0 < ti.cells) (hb : l.length * ti.bytes ≤ maxB) (hl : l.length ≤ maxB) (hc : l.length ≤ c) (hf : full = true → c = l.length)
      (ha : l ≠ [] → ∃ b o, a = some ⟨b, o, none⟩ ∧ ¬ O b ∧ ∀ i, i < l.length → ∀ j, j < ti.cells → w.cell? ⟨b, o + (i * ti.cells + j), none⟩ = some (vs i j))
      (hr : ∀ i x, l[i]? = some x → ∀ j u, (enc x)[j]? = some u → RepF T w O u (vs i j)) : RepF T w O (.slt full t enc l) (.slice a l.length c)

/-- Where an object lies: its block, its first cell, how many elements it has room for. -/
structure Places where
  f : Nat → Option (Nat × Nat × Nat)
  F : Nat → Prop   -- blocks that are others' own
instance : CoeFun Places (fun _ => Nat → Option (Nat × Nat × Nat)) := ⟨Places.f⟩

def Obj.live : Go.V.Obj → Prop
  | .dead => False
  | _ => True
def OwnedT (H : Heap) (ρ : Places) (b : Nat) : Prop := ∃ k p c, (hget H k).live ∧ ρ k = some (b, p, c)
def Owned (H : Heap) (ρ : Places) (b : Nat) : Prop := OwnedT H ρ b ∨ ρ.F b

/-- Elements of an array in the heap: of which type, their cells. -/
def Obj.elems : Go.V.Obj → Option (TypeId × List (List AV))
  | .arr t enc _ l => some (t, l.map enc)
  | .arrl t ls => some (t, ls)
  | _ => none
def Obj.len (o : Go.V.Obj) : Option (TypeId × Nat) := o.elems.map fun x => (x.1, x.2.length)
def Obj.isBox : Go.V.Obj → Option Nat
  | .box _ cs => some cs.length
  | .map _ => some 0
  | _ => none

def CapR (T : Ctx) (w : World) (H : Heap) (ρ : Places) (u : AV) (v : Value) : Prop := match u with
  | .box k o => ∃ b c n, ρ k = some (b, 0, c) ∧ (hget H k).isBox = some n ∧ v = .pointer (some ⟨b, o, none⟩)
  | .rptr cs o => ∃ b p, v = .pointer (some ⟨b, p + o, none⟩) ∧ b < w.heap.size ∧ ¬ Owned H ρ b ∧ ∀ j u, cs[j]? = some u → ∃ val, w.cell? ⟨b, p + j, none⟩ = some val ∧ RepF T w (Owned H ρ) u val
  | _ => False
/-- A cell's value. -/
def Rep1 (T : Ctx) (w : World) (H : Heap) (ρ : Places) (u : AV) (v : Value) : Prop := match u with
  | .undef => v.oneCell' = true
  | .own k off len => ∃ t n ti c, (hget H k).len = some (t, n) ∧ T.look t = some ti ∧ off + len ≤ n ∧
      ((ρ k = none ∧ len = 0 ∧ ∃ a, v = .slice a 0 0) ∨ ∃ b p cap o, ρ k = some (b, p, cap) ∧ len ≤ c ∧ off + c ≤ cap ∧ (0 < c → o = p + off * ti.cells) ∧ v = .slice (some ⟨b, o, none⟩) len c)
  | .box k o => ∃ b c n, ρ k = some (b, 0, c) ∧ (hget H k).isBox = some n ∧ v = .pointer (some ⟨b, o, none⟩)
  | .elt k i o => ∃ t n ti b p c, (hget H k).len = some (t, n) ∧ T.look t = some ti ∧ i < n ∧ ρ k = some (b, p, c) ∧ v = .pointer (some ⟨b, p + (i * ti.cells + o), none⟩)
  | .rptr cs o => ∃ b p, v = .pointer (some ⟨b, p + o, none⟩) ∧ b < w.heap.size ∧ ¬ Owned H ρ b ∧ ∀ j u, cs[j]? = some u → ∃ val, w.cell? ⟨b, p + j, none⟩ = some val ∧ RepF T w (Owned H ρ) u val
  | .fn f first caps => ∃ fs cs, v = .func (.func f) fs cs ∧ All2 (CapR T w H ρ) first fs.toList ∧ All2 (CapR T w H ρ) caps cs.toList
  | .mapr k => ∃ b c n, ρ k = some (b, 0, c) ∧ (hget H k).isBox = some n ∧ v = .map (some b)
  | .anyp => ∃ p, v = .pointer p
  | .agg _ => False
  | .tup _ => False
  | u => RepF T w (Owned H ρ) u v
def RepA (T : Ctx) (w : World) (H : Heap) (ρ : Places) (u : AV) (v : Value) : Prop := match u with
  | .undef => True
  | .agg cs => ∃ vs, v = .agg vs ∧ All2 (Rep1 T w H ρ) cs vs.toList
  | u => Rep1 T w H ρ u v
def RepV (T : Ctx) (w : World) (H : Heap) (ρ : Places) (u : AV) (v : Value) : Prop := match u with
  | .tup us => ∃ vs, v = .tuple vs ∧ All2 (RepA T w H ρ) us vs.toList
  | u => RepA T w H ρ u v

/-- Nothing of so many cells is frozen. -/
def Unfr (fr : Nat × Nat) (n : Nat) : Prop := fr = (0, 0) ∨ n ≤ fr.1
def ArrR (T : Ctx) (w : World) (H : Heap) (ρ : Places) (k : Nat) (t : TypeId) (ls : List (List AV)) : Prop :=
  ∃ ti, T.look t = some ti ∧ 0 < ti.cells ∧ (∀ x, x ∈ ls → x.length = ti.cells) ∧ ((ρ k = none ∧ ls = []) ∨
      ∃ b p c vs fr, ρ k = some (b, p, c) ∧ w.heap[b]? = some (.cells vs t fr) ∧ Unfr fr vs.size ∧ p + c * ti.cells ≤ vs.size ∧ ls.length ≤ c ∧ ls.length * ti.bytes ≤ maxB ∧ ls.length ≤ maxB ∧
        ∀ i x, ls[i]? = some x → ∀ j u, x[j]? = some u → ∃ val, vs[p + (i * ti.cells + j)]? = some val ∧ Rep1 T w H ρ u val)
/-- A key, an element of a map. -/
def RepE (T : Ctx) (w : World) (O : Nat → Prop) (u : AV) (v : Value) : Prop := match u with
  | .agg cs => ∃ vs, v = .agg vs ∧ All2 (RepF T w O) cs vs.toList
  | u => RepF T w O u v
def RepM (T : Ctx) (w : World) (O : Nat → Prop) (e : AV × AV) (m : MapEntry) : Prop := RepE T w O e.1 m.key ∧ RepE T w O e.2 m.val
def ObjR (T : Ctx) (w : World) (H : Heap) (ρ : Places) (k : Nat) (o : Go.V.Obj) : Prop := match o with
  | .dead => True
  | .box t cs => ∃ b vs, ρ k = some (b, 0, 1) ∧ w.heap[b]? = some (.cells vs t (0, 0)) ∧ All2 (Rep1 T w H ρ) cs vs.toList
  | .arr t enc _ l => ArrR T w H ρ k t (l.map enc)
  | .arrl t ls => ArrR T w H ρ k t ls
  | .map es => ∃ b ms ck, ρ k = some (b, 0, 1) ∧ w.heap[b]? = some (.map ms ck) ∧ All2 (RepM T w (Owned H ρ)) es ms.toList

def GlobR (T : Ctx) (w : World) (H : Heap) (ρ : Places) : Prop := ∀ x, x ∈ T.globs → w.cell? x.1 = some x.2 ∧ ¬ Owned H ρ x.1.block
structure HeapR (T : Ctx) (w : World) (H : Heap) (ρ : Places) : Prop where
  obj : ∀ k, ObjR T w H ρ k (hget H k)
  inj : ∀ k k' b p c p' c', (hget H k).live → (hget H k').live → ρ k = some (b, p, c) → ρ k' = some (b, p', c') → k = k'
  lt : ∀ k b p c, (hget H k).live → ρ k = some (b, p, c) → b < w.heap.size
  fresh : ∀ k b p c, (hget H k).live → ρ k = some (b, p, c) → ¬ ρ.F b
  flt : ∀ b, ρ.F b → b < w.heap.size
  glob : GlobR T w H ρ

/-- What may have changed: the blocks in O, and new ones. -/
structure Keeps (O : Nat → Prop) (w w' : World) : Prop where
  os : w'.os = w.os
  tape : w'.tape = w.tape
  output : w'.output = w.output
  size : w.heap.size ≤ w'.heap.size
  block : ∀ b, b < w.heap.size → ¬ O b → w'.heap[b]? = w.heap[b]?

theorem Keeps.refl (O : Nat → Prop) (w : World) : Keeps O w w := ⟨rfl, rfl, rfl, Nat.le_refl _, fun _ _ _ => rfl⟩
theorem Keeps.trans {O O1 : Nat → Prop} {w w1 w2 : World} (h : Keeps O w w1) (h1 : Keeps O1 w1 w2) (ho : ∀ b, O1 b → O b ∨ w.heap.size ≤ b) : Keeps O w w2 :=
  ⟨h1.os.trans h.os, h1.tape.trans h.tape, h1.output.trans h.output, Nat.le_trans h.size h1.size, fun b hb hO =>
    (h1.block b (Nat.lt_of_lt_of_le hb h.size) (fun h' => (ho b h').elim hO (fun h'' => by omega))).trans (h.block b hb hO)⟩

theorem cell_lt {w : World} {a : Addr} {v : Value} (h : w.cell? a = some v) : a.block < w.heap.size := by
  unfold World.cell? at h
  split at h
  · rename_i hh
    exact (Array.getElem?_eq_some_iff.1 hh).1
  · cases h
theorem cell_keeps {O : Nat → Prop} {w w' : World} (h : Keeps O w w') {a : Addr} {v : Value} (ha : ¬ O a.block) (hc : w.cell? a = some v) : w'.cell? a = some v := by
  have := h.block a.block (cell_lt hc) ha
  unfold World.cell? at hc ⊢
  rw [this]
  exact hc

theorem RepF.keeps {T : Ctx} {O O1 O' : Nat → Prop} {w w' : World} (h : Keeps O1 w w') (h1 : ∀ b, O1 b → O b) (ho : ∀ b, O' b → O b ∨ w.heap.size ≤ b) {u : AV} {v : Value} (hr : RepF T w O u v) : RepF T w' O' u v := by
  induction hr with
  | tt => exact .tt
  | ff => exact .ff
  | bool b => exact .bool b
  | int k n => exact .int k n
  | str s h => exact .str s h
  | nils => exact .nils
  | nilp => exact .nilp
  | nilfn => exact .nilfn
  | nilm => exact .nilm
  | slt full t enc l a c ti vs hti hsz hc0 hb hl hc hf ha hr ih =>
    refine .slt full t enc l a c ti vs hti hsz hc0 hb hl hc hf ?_ ih
    intro hn
    obtain ⟨b, o, e, hO, hcell⟩ := ha hn
    have hlen : 0 < l.length := List.length_pos_iff.2 hn
    have hblt := cell_lt (hcell 0 hlen 0 hc0)
    refine ⟨b, o, e, fun h' => ?_, fun i hi j hj => cell_keeps h (fun h' => hO (h1 _ h')) (hcell i hi j hj)⟩
    rcases ho b h' with h'' | h''
    · exact hO h''
    · simp at hblt
      omega

/-! ### Lists -/
theorem All2.length {α : Type u} {β : Type v} {R : α → β → Prop} {l : List α} {m : List β} (h : All2 R l m) : l.length = m.length := by
  induction h with
  | nil => rfl
  | cons _ _ ih => simp [ih]
theorem All2.mono {α : Type u} {β : Type v} {R R' : α → β → Prop} {l : List α} {m : List β} (h : All2 R l m) (hr : ∀ a b, R a b → R' a b) : All2 R' l m := by
  induction h with
  | nil => exact .nil
  | cons h _ ih => exact .cons (hr _ _ h) ih
theorem All2.at {α : Type u} {β : Type v} {R : α → β → Prop} {l : List α} {m : List β} (h : All2 R l m) : ∀ (i : Nat) (a : α), l[i]? = some a → ∃ b, m[i]? = some b ∧ R a b := by
  induction h with
  | nil => intro i a h; simp at h
  | cons h _ ih =>
    intro i a hi
    cases i with
    | zero => simp at hi; subst hi; exact ⟨_, rfl, h⟩
    | succ i => simpa using ih i a (by simpa using hi)
theorem All2.append {α : Type u} {β : Type v} {R : α → β → Prop} {l l' : List α} {m m' : List β} (h : All2 R l m) (h' : All2 R l' m') : All2 R (l ++ l') (m ++ m') := by
  induction h with
  | nil => simpa using h'
  | cons h _ ih => exact .cons h ih
theorem All2.drop {α : Type u} {β : Type v} {R : α → β → Prop} {l : List α} {m : List β} (h : All2 R l m) : ∀ n, All2 R (l.drop n) (m.drop n) := by
  induction h with
  | nil => intro n; simp; exact .nil
  | cons h ht ih =>
    intro n
    cases n with
    | zero => exact .cons h ht
    | succ n => simpa using ih n
theorem All2.take {α : Type u} {β : Type v} {R : α → β → Prop} {l : List α} {m : List β} (h : All2 R l m) : ∀ n, All2 R (l.take n) (m.take n) := by
  induction h with
  | nil => intro n; simp; exact .nil
  | cons h ht ih =>
    intro n
    cases n with
    | zero => exact .nil
    | succ n => exact .cons h (ih n)
theorem All2.intro {α : Type u} {β : Type v} {R : α → β → Prop} : ∀ {l : List α} {m : List β}, l.length = m.length → (∀ (i : Nat) (a : α) (b : β), l[i]? = some a → m[i]? = some b → R a b) → All2 R l m
  | [], [], _, _ => .nil
  | [], _ :: _, h, _ => by simp at h
  | _ :: _, [], h, _ => by simp at h
  | a :: l, b :: m, h, hr => .cons (hr 0 a b rfl rfl) (All2.intro (by simpa using h) fun i (a' : α) (b' : β) ha hb => hr (i + 1) a' b' (by simpa using ha) (by simpa using hb))
/-! ### Carrying what is read from one state to another -/
theorem RepF.one {T : Ctx} {w : World} {O : Nat → Prop} {u : AV} {v : Value} (h : RepF T w O u v) : v.oneCell' = true := by cases h <;> rfl
theorem Rep1.one {T : Ctx} {w : World} {H : Heap} {ρ : Places} {u : AV} {v : Value} (h : Rep1 T w H ρ u v) : v.oneCell' = true := by
  cases u <;> simp only [Rep1] at h <;> first
    | exact h
    | exact h.one
    | (obtain ⟨t, n, ti, c, _, _, _, (⟨_, _, _, rfl⟩ | ⟨b, p, cap, o, _, _, _, _, rfl⟩)⟩ := h <;> rfl)
    | (obtain ⟨b, c, n, _, _, rfl⟩ := h; rfl)
    | (obtain ⟨t, n, ti, b, p, c, _, _, _, _, rfl⟩ := h; rfl)
    | (obtain ⟨b, p, rfl, _⟩ := h; rfl)
    | (obtain ⟨fs, cs, rfl, _⟩ := h; rfl)
theorem RepF.rep1 {T : Ctx} {w : World} {H : Heap} {ρ : Places} {u : AV} {v : Value} (h : RepF T w (Owned H ρ) u v) : Rep1 T w H ρ u v := by
  cases h <;> simp only [Rep1] <;> first | (constructor; done) | (constructor <;> assumption)

/-- From one state to another: 'M' are the arrays, 'N' the boxes of which nothing is kept. -/
structure Ext (M N : Nat → Prop) (w : World) (H : Heap) (ρ : Places) (w' : World) (H' : Heap) (ρ' : Places) : Prop where
  keeps : Keeps (OwnedT H ρ) w w'
  own : ∀ b, OwnedT H' ρ' b → OwnedT H ρ b ∨ w.heap.size ≤ b
  F : ρ'.F = ρ.F
  arr : ∀ k, ¬ M k → ∀ t n, (hget H k).len = some (t, n) → ρ' k = ρ k ∧ ∃ n', (hget H' k).len = some (t, n') ∧ n ≤ n'
  box : ∀ k, ¬ N k → ∀ n, (hget H k).isBox = some n → ρ' k = ρ k ∧ (hget H' k).isBox = some n

def AvC (N : Nat → Prop) : AV → Prop
  | .box k _ => ¬ N k
  | _ => True
/-- A cell's value names none of these. -/
def Av (M N : Nat → Prop) : AV → Prop
  | .own k _ _ => ¬ M k
  | .elt k _ _ => ¬ M k
  | .box k _ => ¬ N k
  | .mapr k => ¬ N k
  | .fn _ fs cs => (∀ u, u ∈ fs → AvC N u) ∧ (∀ u, u ∈ cs → AvC N u)
  | _ => True

section
variable {T : Ctx} {M N : Nat → Prop} {w w' : World} {H H' : Heap} {ρ ρ' : Places} {u : AV} {v : Value}
theorem Ext.own' (e : Ext M N w H ρ w' H' ρ') (b : Nat) (h : Owned H' ρ' b) : Owned H ρ b ∨ w.heap.size ≤ b := by
  rcases h with h | h
  · rcases e.own b h with h' | h'
    · exact .inl (.inl h')
    · exact .inr h'
  · rw [e.F] at h; exact .inl (.inr h)
theorem GlobR.ext (e : Ext M N w H ρ w' H' ρ') (h : GlobR T w H ρ) : GlobR T w' H' ρ' := fun x hx => by
  obtain ⟨h1, h2⟩ := h x hx
  refine ⟨cell_keeps e.keeps (fun h => h2 (.inl h)) h1, fun h' => ?_⟩
  rcases e.own' _ h' with h3 | h3
  · exact h2 h3
  · have := cell_lt h1; omega
theorem RepF.ext (e : Ext M N w H ρ w' H' ρ') (h : RepF T w (Owned H ρ) u v) : RepF T w' (Owned H' ρ') u v := h.keeps e.keeps (fun _ h => .inl h) e.own'
theorem RepE.ext (e : Ext M N w H ρ w' H' ρ') (h : RepE T w (Owned H ρ) u v) : RepE T w' (Owned H' ρ') u v := by
  cases u <;> simp only [RepE] at h ⊢ <;> first
    | exact h.ext e
    | (obtain ⟨vs, h1, h2⟩ := h; exact ⟨vs, h1, h2.mono fun _ _ h => h.ext e⟩)
theorem RepM.ext {e' : AV × AV} {m : MapEntry} (e : Ext M N w H ρ w' H' ρ') (h : RepM T w (Owned H ρ) e' m) : RepM T w' (Owned H' ρ') e' m := ⟨h.1.ext e, h.2.ext e⟩
theorem CapR.ext (e : Ext M N w H ρ w' H' ρ') (ha : AvC N u) (h : CapR T w H ρ u v) : CapR T w' H' ρ' u v := by
  cases u <;> simp only [CapR] at h ⊢
  · obtain ⟨b, c, n, h1, h2, h3⟩ := h
    obtain ⟨e1, e2⟩ := e.box _ ha _ h2
    exact ⟨b, c, n, e1.trans h1, e2, h3⟩
  · obtain ⟨b, p, h1, hlt, h2, h3⟩ := h
    refine ⟨b, p, h1, Nat.lt_of_lt_of_le hlt e.keeps.size, fun h' => ?_, fun j u hj => ?_⟩
    · rcases e.own' _ h' with h'' | h''
      · exact h2 h''
      · omega
    · obtain ⟨val, hv, hr⟩ := h3 j u hj
      exact ⟨val, cell_keeps e.keeps (fun h => h2 (.inl h)) hv, hr.ext e⟩
theorem CapR.exts (e : Ext M N w H ρ w' H' ρ') {us : List AV} {vs : List Value} (ha : ∀ u, u ∈ us → AvC N u) (h : All2 (CapR T w H ρ) us vs) : All2 (CapR T w' H' ρ') us vs := by
  induction h with
  | nil => exact .nil
  | cons h _ ih => exact .cons (h.ext e (ha _ (by simp))) (ih fun u hu => ha u (by simp [hu]))
theorem Rep1.ext (e : Ext M N w H ρ w' H' ρ') (ha : Av M N u) (h : Rep1 T w H ρ u v) : Rep1 T w' H' ρ' u v := by
  cases u <;> simp only [Rep1] at h ⊢ <;> first
    | exact h
    | exact h.ext e
    | skip
  case own k off len =>
    obtain ⟨t, n, ti, c, h1, h2, h3, h4⟩ := h
    obtain ⟨e1, n', e2, e3⟩ := e.arr _ ha _ _ h1
    refine ⟨t, n', ti, c, e2, h2, by omega, ?_⟩
    rw [e1]
    exact h4
  case box k off =>
    obtain ⟨b, c, n, h1, h2, h3⟩ := h
    obtain ⟨e1, e2⟩ := e.box _ ha _ h2
    exact ⟨b, c, n, e1.trans h1, e2, h3⟩
  case mapr k =>
    obtain ⟨b, c, n, h1, h2, h3⟩ := h
    obtain ⟨e1, e2⟩ := e.box _ ha _ h2
    exact ⟨b, c, n, e1.trans h1, e2, h3⟩
  case elt k i o =>
    obtain ⟨t, n, ti, b, p, c, h1, h2, h3, h4, h5⟩ := h
    obtain ⟨e1, n', e2, e3⟩ := e.arr _ ha _ _ h1
    exact ⟨t, n', ti, b, p, c, e2, h2, by omega, e1.trans h4, h5⟩
  case rptr cs o =>
    obtain ⟨b, p, h1, hlt, h2, h3⟩ := h
    refine ⟨b, p, h1, Nat.lt_of_lt_of_le hlt e.keeps.size, fun h' => ?_, fun j u hj => ?_⟩
    · rcases e.own' _ h' with h'' | h''
      · exact h2 h''
      · omega
    · obtain ⟨val, hv, hr⟩ := h3 j u hj
      exact ⟨val, cell_keeps e.keeps (fun h => h2 (.inl h)) hv, hr.ext e⟩
  case fn f fs cs =>
    obtain ⟨vs, cs', h1, h2, h3⟩ := h
    exact ⟨vs, cs', h1, CapR.exts e ha.1 h2, CapR.exts e ha.2 h3⟩
def AvA (M N : Nat → Prop) : AV → Prop
  | .agg cs => ∀ u, u ∈ cs → Av M N u
  | u => Av M N u
def AvV (M N : Nat → Prop) : AV → Prop
  | .tup us => ∀ u, u ∈ us → AvA M N u
  | u => AvA M N u
theorem Rep1.exts (e : Ext M N w H ρ w' H' ρ') {us : List AV} {vs : List Value} (ha : ∀ u, u ∈ us → Av M N u) (h : All2 (Rep1 T w H ρ) us vs) : All2 (Rep1 T w' H' ρ') us vs := by
  induction h with
  | nil => exact .nil
  | cons h _ ih => exact .cons (h.ext e (ha _ (by simp))) (ih fun u hu => ha u (by simp [hu]))
theorem RepA.ext (e : Ext M N w H ρ w' H' ρ') (ha : AvA M N u) (h : RepA T w H ρ u v) : RepA T w' H' ρ' u v := by
  cases u <;> simp only [RepA, AvA] at h ha ⊢ <;> first
    | exact Rep1.ext e ha h
    | (obtain ⟨vs, h1, h2⟩ := h; exact ⟨vs, h1, Rep1.exts e ha h2⟩)
theorem RepA.exts (e : Ext M N w H ρ w' H' ρ') {us : List AV} {vs : List Value} (ha : ∀ u, u ∈ us → AvA M N u) (h : All2 (RepA T w H ρ) us vs) : All2 (RepA T w' H' ρ') us vs := by
  induction h with
  | nil => exact .nil
  | cons h _ ih => exact .cons (h.ext e (ha _ (by simp))) (ih fun u hu => ha u (by simp [hu]))
theorem RepV.ext (e : Ext M N w H ρ w' H' ρ') (ha : AvV M N u) (h : RepV T w H ρ u v) : RepV T w' H' ρ' u v := by
  cases u <;> simp only [RepV, AvV] at h ha ⊢ <;> first
    | exact RepA.ext e ha h
    | (obtain ⟨vs, h1, h2⟩ := h; exact ⟨vs, h1, RepA.exts e ha h2⟩)
end
end Go.V


set_option linter.unusedVariables false
set_option linter.unusedSimpArgs false
namespace Go.V

/-! ### Types -/
def zeq : AV → Value → Bool
  | .int k n, .int k' n' => decide (k = k') && decide (n = n')
  | .ff, .bool b => !b
  | .str [], .string s => decide (s.size = 0)
  | .nils, .slice none 0 0 => true
  | .nilp, .pointer none => true
  | .nilfn, .nilFunc => true
  | .nilm, .map none => true
  | _, _ => false
theorem zeq_rep {T : Ctx} {w : World} {O : Nat → Prop} {u : AV} {v : Value} (h : zeq u v = true) : RepF T w O u v := by
  unfold zeq at h
  split at h <;> first | (simp at h; done) | skip
  · simp at h; obtain ⟨rfl, rfl⟩ := h; exact .int _ _
  · rename_i b; cases b <;> first | exact .ff | simp at h
  · rename_i s
    have hs : s.size = 0 := by simpa using h
    have : s = bs [] := by
      cases s with | mk d => cases d with | mk l => simp [ByteArray.size] at hs; subst hs; rfl
    subst this
    exact .str [] (by simp [maxS])
  · exact .nils
  · exact .nilp
  · exact .nilfn
  · exact .nilm
def zeqs : List AV → List Value → Bool
  | [], [] => true
  | u :: us, v :: vs => zeq u v && zeqs us vs
  | _, _ => false
def fieldOff : List (Nat × Nat) → Nat → Option (Nat × Nat)
  | [], _ => none
  | x :: _, 0 => some x
  | _ :: r, k + 1 => fieldOff r k
def fieldsOk (P : Program) : List (Nat × Nat) → List Field → Bool
  | [], [] => true
  | (o, s) :: fs, f :: gs => decide (f.offset = o) && decide ((P.info? f.type).map (·.size) = some s) && fieldsOk P fs gs
  | _, _ => false
def kindOk (P : Program) (t : TypeId) (c : Nat) : TK → Bool
  | .bool => match P.underlying t with | some .bool => decide (c = 1) | _ => false
  | .int k => match P.underlying t with | some (.int k') => decide (k = k') && decide (c = 1) | _ => false
  | .str => match P.underlying t with | some .string => decide (c = 1) | _ => false
  | .ptr => match P.underlying t with | some (.pointer _) => decide (c = 1) | _ => false
  | .slice e => match P.underlying t with | some (.slice e') => decide (e = e') && decide (c = 1) | _ => false
  | .struct fs => match P.underlying t with | some (.struct gs) => fieldsOk P fs gs.toList | _ => false
  | .func => match P.underlying t with | some (.func _ _ _) => decide (c = 1) | _ => false
  | .map k e => match P.underlying t with | some (.map k' e') => decide (k = k') && decide (e = e') && decide (c = 1) | _ => false
  | .other => match P.underlying t with | some (.struct _) | some (.array _ _) | none => false | _ => decide (c = 1)
def tyOk (P : Program) (t : TypeId) (i : TI) : Bool :=
  (match P.info? t with
    | some j => decide (j.size = i.cells) && decide (j.bytes = i.bytes) && decide (0 < i.cells) && (match j.zero with | some z => zeqs i.zero z.cells.toList && decide (z.cells.size = i.cells) && decide (0 < i.bytes) | none => false)
    | none => false) && kindOk P t i.cells i.kind
def treeB (P : Program) : Tree → Bool
  | .leaf => true
  | .node l t i r => treeB P l && tyOk P t i && treeB P r
def treeOk (P : Program) (T : Ctx) : Bool := treeB P T.tree
theorem look_ok' {P : Program} : ∀ {T : Tree} {t : Nat} {i : TI}, treeB P T = true → T.look t = some i → tyOk P t i = true
  | .leaf, t, i, _, h => by simp [Tree.look] at h
  | .node l s j r, t, i, hk, h => by
    simp only [treeB, Bool.and_eq_true] at hk
    simp only [Tree.look] at h
    cases h1 : Nat.beq t s with
    | true =>
      rw [h1] at h
      simp at h
      have := Nat.eq_of_beq_eq_true h1
      subst this; subst h
      exact hk.1.2
    | false =>
      rw [h1] at h
      simp only [cond_false] at h
      cases h2 : Nat.blt t s with
      | true => rw [h2] at h; exact look_ok' hk.1.1 h
      | false => rw [h2] at h; exact look_ok' hk.2 h
theorem look_ok {P : Program} {T : Ctx} {t : Nat} {i : TI} (hk : treeOk P T = true) (h : T.look t = some i) : tyOk P t i = true := look_ok' hk h

structure TyR (P : Program) (t : TypeId) (i : TI) : Prop where
  info : ∃ j z, P.info? t = some j ∧ j.size = i.cells ∧ j.bytes = i.bytes ∧ j.zero = some z ∧ zeqs i.zero z.cells.toList = true
  pos : 0 < i.cells
  bpos : 0 < i.bytes
  zsz : ∀ j z, P.info? t = some j → j.zero = some z → z.cells.size = i.cells
  kind : kindOk P t i.cells i.kind = true
theorem look_ty {P : Program} {T : Ctx} {t : Nat} {i : TI} (h : treeOk P T = true) (hl : T.look t = some i) : TyR P t i := by
  have := look_ok h hl
  simp only [tyOk, Bool.and_eq_true] at this
  obtain ⟨h1, h2⟩ := this
  split at h1
  · rename_i j hj
    simp only [Bool.and_eq_true, decide_eq_true_eq] at h1
    obtain ⟨⟨⟨a, b⟩, c⟩, d⟩ := h1
    split at d
    · rename_i z hz
      simp only [Bool.and_eq_true, decide_eq_true_eq] at d
      refine ⟨⟨j, z, hj, a, b, hz, d.1.1⟩, c, d.2, fun j' z' hj' hz' => ?_, h2⟩
      rw [hj] at hj'
      cases hj'
      rw [hz] at hz'
      cases hz'
      exact d.1.2
    · cases d
  · cases h1

/-! ### The state -/
structure St (T : Ctx) (w : World) (H : Heap) (ρ : Places) (env : Env) (a : Act) (n : Nat) : Prop where
  slot : ∀ s, RepV T w H ρ (get env s) (a.tmps.getD s Go.undef)
  size : a.tmps.size = n
  heap : HeapR T w H ρ

/-- An operation comes to its value. -/
def Exec (P : Program) (o : Oper) (a : Act) (w : World) (R : Value → World → Prop) : Prop := match (execOp a.eval o).run P w with
  | .ok (.value v) w' => R v w'
  | .ok .skip w' => R Go.undef w'
  | .ok (.enter f args) w' => Calls P f args w' fun e w'' => ∃ v, e = .returned v ∧ R v w''
  | _ => False
theorem Exec.mono {P : Program} {o : Oper} {a : Act} {w : World} {R R' : Value → World → Prop} (h : Exec P o a w R) (hr : ∀ v w', R v w' → R' v w') : Exec P o a w R' := by
  unfold Exec at h ⊢
  split at h
  · exact hr _ _ h
  · exact hr _ _ h
  · exact h.mono fun e w' ⟨v, h1, h2⟩ => ⟨v, h1, hr _ _ h2⟩
  · exact h.elim
theorem wp_of_exec {P : Program} {o : Oper} {a : Act} {w : World} {next : Act → World → Prop} {Q : Exit → Act → World → Prop} (h : Exec P o a w fun v w' => next (a.put o.dst v) w') : o.wp P a w next Q := by
  unfold Exec at h
  unfold Oper.wp Oper.upon
  split at h
  · rename_i e; rw [e]; exact h
  · rename_i e; rw [e]; exact h
  · rename_i e; rw [e]
    refine h.mono fun e w'' => ?_
    rintro ⟨v, rfl, hv⟩
    exact hv
  · exact h.elim

/-! ### What an operation does, in abstract values -/
/-- K at a value whose constructor is known. -/
def force (v : AV) (K : AV → Prop) : Prop := match v with
  | .tt => K .tt | .ff => K .ff | .bool b => K (.bool b) | .int k n => K (.int k n) | .str s => K (.str s)
  | .slt f t e l => K (.slt f t e l) | .nils => K .nils | .own k o n => K (.own k o n)
  | .box k o => K (.box k o) | .elt k i o => K (.elt k i o) | .rptr c o => K (.rptr c o) | .nilp => K .nilp
  | .fn f c d => K (.fn f c d) | .nilfn => K .nilfn | .nilm => K .nilm | .mapr k => K (.mapr k) | .anyp => K .anyp | .agg c => K (.agg c) | .tup c => K (.tup c) | .undef => K .undef
theorem force_eq {v : AV} {K : AV → Prop} : force v K = K v := by cases v <;> rfl
def forceL : List AV → (List AV → Prop) → Prop
  | [], K => K []
  | v :: r, K => force v fun v => forceL r fun r => K (v :: r)
theorem forceL_eq : ∀ {l : List AV} {K : List AV → Prop}, forceL l K = K l
  | [], _ => rfl
  | v :: r, K => by simp only [forceL, force_eq, forceL_eq]

def trim : List Nat → Env → (Env → Prop) → Prop
  | [], _, K => K []
  | s :: ks, env, K => force (get env s) fun v => trim ks env fun e => K ((s, v) :: e)
def trimmed : List Nat → Env → Env
  | [], _ => []
  | s :: ks, env => (s, get env s) :: trimmed ks env
theorem trim_eq : ∀ {ks : List Nat} {env : Env} {K : Env → Prop}, trim ks env K = K (trimmed ks env)
  | [], _, _ => rfl
  | s :: ks, env, K => by simp only [trim, force_eq, trim_eq, trimmed]
theorem get_trimmed : ∀ (ks : List Nat) (env : Env) (s : Nat), get (trimmed ks env) s = get env s ∨ get (trimmed ks env) s = .undef
  | [], _, _ => .inr rfl
  | k :: ks, env, s => by
    simp only [trimmed, get]
    cases h : Nat.beq k s with
    | true => have := Nat.eq_of_beq_eq_true h; subst this; exact .inl rfl
    | false => exact get_trimmed ks env s

structure Ob (p k : Prop) : Prop where
  ob : p
  go : k
structure Br (b : Bool) (x y : Prop) : Prop where
  yes : b = true → x
  no : b = false → y
structure All {α : Type} (p : α → Prop) : Prop where
  all : ∀ a, p a
structure Hyp (p k : Prop) : Prop where
  hyp : p → k
theorem Br.go {b : Bool} {x y : Prop} (h : Br b x y) : if b = true then x else y := by
  cases b
  · exact h.no rfl
  · exact h.yes rfl

def ofV : Value → AV
  | .bool true => .tt
  | .bool false => .ff
  | .int k n => .int k n
  | .string s => bif Nat.ble s.data.toList.length maxS then .str s.data.toList else .undef
  | .slice none 0 0 => .nils
  | .pointer none => .nilp
  | .nilFunc => .nilfn
  | .map none => .nilm
  | _ => .undef
def ev (env : Env) : Operand → AV
  | .tmp t => get env t
  | .const v => ofV v
  | .func f => .fn f [] []
  | .global _ => .undef
theorem ofV_rep {T : Ctx} {w : World} {H : Heap} {ρ : Places} (v : Value) : RepV T w H ρ (ofV v) v := by
  unfold ofV
  split <;> first
    | trivial
    | (simp only [RepV, RepA, Rep1]; constructor; done)
    | skip
  rename_i s
  cases h : Nat.ble s.data.toList.length maxS with
  | true =>
    simp only [cond_true, RepV, RepA, Rep1]
    have := RepF.str (T := T) (w := w) (O := Owned H ρ) s.data.toList (Nat.le_of_ble_eq_true h)
    simpa [bs] using this
  | false => trivial
theorem ev_rep {T : Ctx} {w : World} {H : Heap} {ρ : Places} {env : Env} {a : Act} {n : Nat} (h : St T w H ρ env a n) (x : Operand) : RepV T w H ρ (ev env x) (a.eval x) := by
  cases x with
  | tmp t => exact h.slot t
  | const v => exact ofV_rep v
  | func f => exact ⟨#[], #[], rfl, .nil, .nil⟩
  | global g => trivial
end Go.V


set_option linter.unusedVariables false
set_option linter.unusedSimpArgs false
namespace Go.V

/-! ### Values -/
def boolK (v : AV) (kt kf : Prop) : Prop := match v with
  | .tt => kt | .ff => kf | .bool b => Br b kt kf | _ => False
section
variable {P : Program} {T : Ctx} {w : World} {H : Heap} {ρ : Places} {u : AV} {v : Value}
theorem rep_tt (h : RepV T w H ρ .tt v) : v = .bool true := by simp only [RepV, RepA, Rep1] at h; cases h; rfl
theorem rep_ff (h : RepV T w H ρ .ff v) : v = .bool false := by simp only [RepV, RepA, Rep1] at h; cases h; rfl
theorem rep_bool {b : Bool} (h : RepV T w H ρ (.bool b) v) : v = .bool b := by simp only [RepV, RepA, Rep1] at h; cases h; rfl
theorem rep_int {k : IntKind} {n : Int} (h : RepV T w H ρ (.int k n) v) : v = .int k n := by simp only [RepV, RepA, Rep1] at h; cases h; rfl
theorem rep_str {s : List UInt8} (h : RepV T w H ρ (.str s) v) : v = .string (bs s) ∧ s.length ≤ maxS := by simp only [RepV, RepA, Rep1] at h; cases h; exact ⟨rfl, by assumption⟩
theorem rep_nils (h : RepV T w H ρ .nils v) : v = .slice none 0 0 := by simp only [RepV, RepA, Rep1] at h; cases h; rfl
theorem rep_nilp (h : RepV T w H ρ .nilp v) : v = .pointer none := by simp only [RepV, RepA, Rep1] at h; cases h; rfl

theorem boolK_ok {kt kf : Prop} (h : boolK u kt kf) (hr : RepV T w H ρ u v) : ∃ b, v = .bool b ∧ if b = true then kt else kf := by
  cases u <;> simp only [boolK] at h <;> first | exact h.elim | skip
  · exact ⟨true, rep_tt hr, h⟩
  · exact ⟨false, rep_ff hr, h⟩
  · exact ⟨_, rep_bool hr, h.go⟩

/-! ### Memory that is read -/
def partK (ti : TI) (cs : List AV) (o : Nat) (K : AV → Prop) : Prop :=
  bif Nat.ble (Nat.add o ti.cells) cs.length then (match ti.kind with
  | .struct _ => forceL ((cs.drop o).take ti.cells) fun cs => K (.agg cs)
  | _ => (match cs.drop o with
    | v :: _ => force v K
    | [] => False)) else False

theorem isAgg_run {t : TypeId} {ti : TI} (h : TyR P t ti) : (isAgg t).run P w = .ok (match ti.kind with | .struct _ => true | _ => false) w := by
  have := h.kind
  unfold kindOk at this
  split at this <;> rename_i hk <;> simp only [hk] <;> (split at this <;> first | (cases this; done) | skip) <;> first
    | (rename_i hu; simp [isAgg, run_underlying hu])
    | skip
  rename_i h1 h2 h3
  cases hu : P.underlying t with
  | none => exact absurd hu h3
  | some d =>
    rw [isAgg, Sem.run_bind, run_underlying hu]
    cases d <;> first | rfl | (exact absurd hu (h1 _)) | (exact absurd hu (h2 _ _))
theorem sizeOf_run {t : TypeId} {ti : TI} (h : TyR P t ti) : (sizeOf t).run P w = .ok ti.cells w := by
  obtain ⟨j, z, h1, h2, _⟩ := h.info
  simp [sizeOf, typeInfo, h1, h2]
theorem info_run {t : TypeId} {ti : TI} (h : TyR P t ti) : ∃ j z, (typeInfo t).run P w = .ok j w ∧ j.size = ti.cells ∧ j.bytes = ti.bytes ∧ j.zero = some z ∧ zeqs ti.zero z.cells.toList = true := by
  obtain ⟨j, z, h1, h2, h3, h4, h5⟩ := h.info
  exact ⟨j, z, by simp [typeInfo, h1], h2, h3, h4, h5⟩
theorem zero_run {t : TypeId} {ti : TI} (h : TyR P t ti) : ∃ z, (zeroValue t).run P w = .ok z w ∧ zeqs ti.zero z.cells.toList = true ∧ z.cells.size = ti.cells := by
  obtain ⟨j, z, h1, h2, h3, h4, h5⟩ := h.info
  exact ⟨z, by simp [zeroValue, typeInfo, h1, h4], h5, h.zsz j z h1 h4⟩
theorem add_none (b o n : Nat) : (⟨b, o, none⟩ : Addr).add n = ⟨b, o + n, none⟩ := by unfold Addr.add; split <;> simp_all

theorem RepV.of1 (h : Rep1 T w H ρ u v) : RepV T w H ρ u v := by
  cases u <;> first | exact h | exact h.elim | trivial
theorem RepA.of1 (h : Rep1 T w H ρ u v) : RepA T w H ρ u v := by
  cases u <;> first | exact h | exact h.elim | trivial
theorem RepV.ofA (h : RepA T w H ρ u v) : RepV T w H ρ u v := by
  cases u <;> first | exact h | (simp only [RepA, Rep1] at h)

theorem loadVar_ok {t : TypeId} {ti : TI} (ht : TyR P t ti) {cs : List AV} {b p o : Nat} {K : AV → Prop}
    (hc : ∀ j u, cs[j]? = some u → ∃ val, w.cell? ⟨b, p + j, none⟩ = some val ∧ Rep1 T w H ρ u val) (h : partK ti cs o K) :
    ∃ val u, (loadVar t ⟨b, p + o, none⟩).run P w = .ok val w ∧ RepV T w H ρ u val ∧ K u := by
  unfold partK at h
  cases hb : Nat.ble (Nat.add o ti.cells) cs.length with
  | false => rw [hb] at h; exact h.elim
  | true =>
    rw [hb] at h
    simp only [cond_true] at h
    have hle : o + ti.cells ≤ cs.length := Nat.le_of_ble_eq_true hb
    have hpos := ht.pos
    have hagg := isAgg_run (w := w) ht
    split at h
    · rename_i fs hk
      rw [hk] at hagg
      simp only at hagg
      rw [forceL_eq] at h
      -- the cells
      have hv : ∃ vs : List Value, vs.length = ti.cells ∧ (∀ j val, vs[j]? = some val → w.cell? ⟨b, p + o + j, none⟩ = some val) ∧ All2 (Rep1 T w H ρ) ((cs.drop o).take ti.cells) vs := by
        have hall : ∀ j, ∃ val, j < ti.cells → w.cell? ⟨b, p + o + j, none⟩ = some val ∧ ∀ u, (cs.drop o)[j]? = some u → Rep1 T w H ρ u val := by
          intro j
          by_cases hj : j < ti.cells
          · obtain ⟨u, hu⟩ : ∃ u, cs[o + j]? = some u := ⟨_, List.getElem?_eq_getElem (by omega)⟩
            obtain ⟨val, h1, h2⟩ := hc _ _ hu
            refine ⟨val, fun _ => ⟨by rw [← h1, Nat.add_assoc], fun u' hu' => ?_⟩⟩
            rw [List.getElem?_drop, hu] at hu'
            cases hu'
            exact h2
          · exact ⟨Go.undef, fun h => absurd h hj⟩
        obtain ⟨f, hf⟩ := Classical.axiomOfChoice hall
        refine ⟨(List.range ti.cells).map f, by simp, fun j val hj => ?_, All2.intro (by simp; omega) fun j u val hu hval => ?_⟩
        · have hjl : j < ti.cells := by
            have := (List.getElem?_eq_some_iff.1 hj).1
            simpa using this
          simp [hjl] at hj
          subst hj
          exact (hf j hjl).1
        · have hjl : j < ti.cells := by
            have := (List.getElem?_eq_some_iff.1 hval).1
            simpa using this
          simp [hjl] at hval
          subst hval
          refine (hf j hjl).2 u ?_
          rw [List.getElem?_take] at hu
          simpa [hjl] using hu
      obtain ⟨vs, hl, hcell, hall⟩ := hv
      refine ⟨.agg vs.toArray, .agg ((cs.drop o).take ti.cells), ?_, ⟨vs.toArray, rfl, by simpa using hall⟩, h⟩
      have hload := run_loadCells_list (P := P) w ⟨b, p + o, none⟩ vs (fun j val hj => by rw [add_none]; exact hcell j val hj)
      rw [hl] at hload
      simp only [loadVar, Sem.run_bind, hagg, Result.andThen_ok, if_true, sizeOf_run ht, hload, Sem.run_pure]
    · rename_i hk
      have hagg' : (isAgg t).run P w = .ok false w := by
        rw [hagg]
        split
        · rename_i fs hk'; exact absurd hk' (hk fs)
        · rfl
      split at h
      · rename_i u r hd
        rw [force_eq] at h
        have hu : cs[o]? = some u := by
          have := congrArg (·[0]?) hd
          simpa [List.getElem?_drop] using this
        obtain ⟨val, h1, h2⟩ := hc _ _ hu
        refine ⟨val, u, ?_, .of1 h2, h⟩
        simp [loadVar, hagg', h1]
      · exact h.elim
end
end Go.V


set_option linter.unusedVariables false
set_option linter.unusedSimpArgs false
namespace Go.V
section
variable {P : Program} {T : Ctx} {w : World} {H : Heap} {ρ : Places} {u : AV} {v : Value}

def loadK (ti : TI) (a : AV) (H : Heap) (K : AV → Prop) : Prop := match a with
  | .rptr cs o => partK ti cs o K
  | .box k o => (match hget H k with
    | .box _ cs => partK ti cs o K
    | _ => False)
  | .elt k i o => (match hget H k with
    | @Obj.arr α _ enc _ l => All fun (x : α) => Hyp (l[i]? = some x) (partK ti (enc x) o K)
    | .arrl _ ls => (match ls[i]? with | some x => partK ti x o K | none => False)
    | _ => False)
  | _ => False

/-- The cells of an element of an array of the heap. -/
theorem elt_cells {k i : Nat} {t : TypeId} {ls : List (List AV)} (hA : ArrR T w H ρ k t ls) {n : Nat} {ti' : TI} {b p c : Nat} (hti : T.look t = some ti') (hρ : ρ k = some (b, p, c)) {x : List AV} (hx : ls[i]? = some x) :
    ∀ j u, x[j]? = some u → ∃ val, w.cell? ⟨b, p + i * ti'.cells + j, none⟩ = some val ∧ Rep1 T w H ρ u val := by
  intro j u hu
  obtain ⟨ti, h1, h2, h3, h4⟩ := hA
  rw [h1] at hti
  cases hti
  rcases h4 with ⟨h5, h6⟩ | ⟨b', p', c', vs, fr, h5, h6, hun, h7, h8, h9, h9', h10⟩
  · rw [h5] at hρ; cases hρ
  · rw [h5] at hρ
    cases hρ
    obtain ⟨val, hv, hr⟩ := h10 i x hx j u hu
    refine ⟨val, ?_, hr⟩
    simp only [World.cell?, h6]
    simpa [Nat.add_assoc] using hv

theorem loadK_ok {t : TypeId} {ti : TI} (ht : TyR P t ti) (hH : HeapR T w H ρ) {K : AV → Prop} (h : loadK ti u H K) (hr : RepV T w H ρ u v) :
    ∃ val u', (Instr.loadAt t v).run P w = .ok val w ∧ RepV T w H ρ u' val ∧ K u' := by
  unfold loadK at h
  split at h
  · rename_i cs o
    simp only [RepV, RepA, Rep1] at hr
    obtain ⟨b, p, rfl, hlt, hO, hc⟩ := hr
    obtain ⟨val, u', h1, h2, h3⟩ := loadVar_ok ht (fun j u hj => let ⟨val, a, b⟩ := hc j u hj; ⟨val, a, b.rep1⟩) h
    exact ⟨val, u', by simpa [Instr.loadAt, Instr.sureAddr] using h1, h2, h3⟩
  · rename_i k o
    simp only [RepV, RepA, Rep1] at hr
    obtain ⟨b, c, n, h1, h2, rfl⟩ := hr
    have hobj := hH.obj k
    split at h
    · rename_i t' cs hk
      rw [hk] at hobj
      obtain ⟨b', vs, e1, e2, e3⟩ := hobj
      rw [h1] at e1
      cases e1
      obtain ⟨val, u', h1, h2, h3⟩ := loadVar_ok (b := b) (p := 0) ht (fun j u hj => by
        obtain ⟨val, a, hb⟩ := e3.at j u hj
        exact ⟨val, by simp only [World.cell?, e2]; simpa using a, hb⟩) h
      rw [Nat.zero_add] at h1
      exact ⟨val, u', by simpa [Instr.loadAt, Instr.sureAddr] using h1, h2, h3⟩
    · exact h.elim
  · rename_i k i o
    simp only [RepV, RepA, Rep1] at hr
    obtain ⟨t', n, ti', b, p, c, h1, h2, h3, h4, rfl⟩ := hr
    have hobj := hH.obj k
    split at h
    · rename_i α t'' enc hc l hk
      rw [hk] at hobj h1
      simp only [Obj.len, Obj.elems, Option.map_some, Option.some.injEq, Prod.mk.injEq] at h1
      obtain ⟨rfl, rfl⟩ := h1
      simp only [List.length_map] at h3
      obtain ⟨x, hx⟩ : ∃ x, l[i]? = some x := ⟨_, List.getElem?_eq_getElem h3⟩
      have hcells := elt_cells (n := 0) hobj h2 h4 (i := i) (x := enc x) (by simp [hx])
      obtain ⟨val, u', h1, h2, h3⟩ := loadVar_ok (o := o) ht hcells ((h.all x).hyp hx)
      rw [Nat.add_assoc] at h1
      exact ⟨val, u', by simpa [Instr.loadAt, Instr.sureAddr] using h1, h2, h3⟩
    · rename_i t'' ls hk
      rw [hk] at hobj h1
      simp only [Obj.len, Obj.elems, Option.map_some, Option.some.injEq, Prod.mk.injEq] at h1
      obtain ⟨rfl, rfl⟩ := h1
      split at h
      · rename_i x hx
        have hcells := elt_cells (n := 0) hobj h2 h4 hx
        obtain ⟨val, u', h1, h2, h3⟩ := loadVar_ok (o := o) ht hcells h
        rw [Nat.add_assoc] at h1
        exact ⟨val, u', by simpa [Instr.loadAt, Instr.sureAddr] using h1, h2, h3⟩
      · exact h.elim
    · exact h.elim
  · exact h.elim

def fieldK (ti : TI) (a : AV) (f : Nat) (K : AV → Prop) : Prop := match ti.kind with
  | .struct fs => (match fieldOff fs f with
    | some (o, s) => bif Nat.blt 0 s then (match a with
      | .rptr cs p => K (.rptr cs (Nat.add p o))
      | .box k p => K (.box k (Nat.add p o))
      | .elt k i p => K (.elt k i (Nat.add p o))
      | _ => False) else False
    | none => False)
  | _ => False
theorem fields_at : ∀ {fs : List (Nat × Nat)} {gs : List Field} {f o s : Nat}, fieldsOk P fs gs = true → fieldOff fs f = some (o, s) →
    ∃ fd, gs[f]? = some fd ∧ fd.offset = o ∧ (P.info? fd.type).map (·.size) = some s
  | [], _, f, o, s, _, h => by simp [fieldOff] at h
  | _ :: _, [], f, o, s, h, _ => by simp [fieldsOk] at h
  | (o', s') :: fs, g :: gs, 0, o, s, h, hf => by
    simp only [fieldsOk, Bool.and_eq_true, decide_eq_true_eq] at h
    simp only [fieldOff, Option.some.injEq, Prod.mk.injEq] at hf
    obtain ⟨rfl, rfl⟩ := hf
    exact ⟨g, rfl, h.1.1, h.1.2⟩
  | (o', s') :: fs, g :: gs, f + 1, o, s, h, hf => by
    simp only [fieldsOk, Bool.and_eq_true] at h
    simpa using fields_at h.2 hf
theorem struct_fields {t : TypeId} {ti : TI} (ht : TyR P t ti) {fs : List (Nat × Nat)} (hk : ti.kind = .struct fs) : ∃ gs, P.underlying t = some (.struct gs) ∧ fieldsOk P fs gs.toList = true := by
  have := ht.kind
  rw [hk] at this
  simp only [kindOk] at this
  split at this
  · rename_i gs hu; exact ⟨gs, hu, this⟩
  · cases this
theorem fieldK_ok {t : TypeId} {ti : TI} (ht : TyR P t ti) {f : Nat} {K : AV → Prop} (h : fieldK ti u f K) (hr : RepV T w H ρ u v) :
    ∃ val u', (Instr.fieldAt t v f).run P w = .ok val w ∧ RepV T w H ρ u' val ∧ K u' := by
  unfold fieldK at h
  split at h
  · rename_i fs hk
    obtain ⟨gs, hu, hf⟩ := struct_fields ht hk
    split at h
    · rename_i o s ho
      obtain ⟨fd, h1, h2, h3⟩ := fields_at hf ho
      cases hb0 : Nat.blt 0 s with
      | false => rw [hb0] at h; exact h.elim
      | true =>
      rw [hb0] at h
      have h4 : 0 < s := by simpa using hb0
      simp only [cond_true] at h
      obtain ⟨j, hj, hjs⟩ := Option.map_eq_some_iff.1 h3
      have hrun : ∀ b p, (Instr.fieldAt t (.pointer (some ⟨b, p, none⟩)) f).run P w = .ok (.pointer (some ⟨b, p + o, none⟩)) w := by
        intro b p
        have hsz : (sizeOf fd.type).run P w = .ok s w := by simp [sizeOf, typeInfo, hj, hjs]
        have h1' : gs[f]? = some fd := by simpa using h1
        simp [Instr.fieldAt, run_underlying hu, h1', Instr.sureAddr, fieldPlace, hsz, Nat.ne_of_gt h4, add_none, h2]
      split at h
      · rename_i cs p
        simp only [RepV, RepA, Rep1] at hr
        obtain ⟨b, q, rfl, h5, h6, h7⟩ := hr
        exact ⟨_, .rptr cs (Nat.add p o), hrun _ _, ⟨b, q, by rw [Nat.add_assoc]; rfl, h5, h6, h7⟩, h⟩
      · rename_i k p
        simp only [RepV, RepA, Rep1] at hr
        obtain ⟨b, c, n, h5, h6, rfl⟩ := hr
        exact ⟨_, .box k (Nat.add p o), hrun _ _, ⟨b, c, n, h5, h6, rfl⟩, h⟩
      · rename_i k i p
        simp only [RepV, RepA, Rep1] at hr
        obtain ⟨t', n, ti', b, q, c, h5, h6, h7, h8, rfl⟩ := hr
        exact ⟨_, .elt k i (Nat.add p o), hrun _ _, ⟨t', n, ti', b, q, c, h5, h6, h7, h8, by rw [Nat.add_assoc, Nat.add_assoc]; rfl⟩, h⟩
      · exact h.elim
    · exact h.elim
  · exact h.elim

theorem rep_slt {α : Type} {full : Bool} {t : TypeId} {enc : α → List AV} {l : List α} (h : RepV T w H ρ (.slt full t enc l) v) : ∃ a c ti, ∃ vs : Nat → Nat → Value, v = .slice a l.length c ∧ T.look t = some ti ∧ (∀ x, x ∈ l → (enc x).length = ti.cells) ∧ 0 < ti.cells ∧
    l.length * ti.bytes ≤ maxB ∧ l.length ≤ maxB ∧ l.length ≤ c ∧ (full = true → c = l.length) ∧
      (l ≠ [] → ∃ b o, a = some ⟨b, o, none⟩ ∧ ¬ Owned H ρ b ∧ ∀ i, i < l.length → ∀ j, j < ti.cells → w.cell? ⟨b, o + (i * ti.cells + j), none⟩ = some (vs i j)) ∧
      ∀ i x, l[i]? = some x → ∀ j u, (enc x)[j]? = some u → RepF T w (Owned H ρ) u (vs i j) := by
  simp only [RepV, RepA, Rep1] at h
  cases h
  rename_i a c ti vs _ _ _ _ _ _ _ _ _
  exact ⟨a, c, ti, vs, rfl, by assumption, by assumption, by assumption, by assumption, by assumption, by assumption, by assumption, by assumption, by assumption⟩
/-- An index: of a slice whose elements are of type e (the address of an element), of a string (a byte). -/
def eltIs (H : Heap) (k e : Nat) : Bool := match hget H k with
  | .arr t _ _ _ => Nat.beq t e
  | .arrl t _ => Nat.beq t e
  | _ => false
def idxK (e : Nat) (x i : AV) (H : Heap) (K : AV → Prop) : Prop := match i with
  | .int _ i => (match x with
    | @AV.slt α _ t enc l => bif Nat.beq t e then Ob (0 ≤ i ∧ i < (l.length : Int)) (All fun (x : α) => Hyp (l[i.toNat]? = some x) (forceL (enc x) fun cs => K (.rptr cs 0))) else False
    | .own k off len => bif eltIs H k e then Ob (0 ≤ i ∧ i < (len : Int)) (K (.elt k (Nat.add off i.toNat) 0)) else False
    | _ => False)
  | _ => False
def strIdxK (x i : AV) (K : AV → Prop) : Prop := match i with
  | .int _ i => (match x with
    | .str s => Ob (0 ≤ i ∧ i < (s.length : Int)) (All fun (c : UInt8) => Hyp (s[i.toNat]? = some c) (K (.int .u8 c.toNat)))
    | _ => False)
  | _ => False
theorem indexAt_run {t e : TypeId} (hu : P.underlying t = some (.slice e)) {ti : TI} (hty : TyR P e ti) (b o len c : Nat) (k : IntKind) (i : Int) (h0 : 0 ≤ i) (h1 : i < len) :
    (Instr.indexAt t (.slice (some ⟨b, o, none⟩) len c) (.int k i)).run P w = .ok (.pointer (some ⟨b, o + i.toNat * ti.cells, none⟩)) w := by
  simp [Instr.indexAt, asIntOf, run_underlying hu, h0, h1, sizeOf_run hty, add_none]
theorem idxK_ok {t e : TypeId} (hu : P.underlying t = some (.slice e)) {ti : TI} (hti : T.look e = some ti) (hty : TyR P e ti) {i : AV} {vi : Value} (hH : HeapR T w H ρ)
    {K : AV → Prop} (h : idxK e u i H K) (hr : RepV T w H ρ u v) (hi : RepV T w H ρ i vi) :
    ∃ val u', (Instr.indexAt t v vi).run P w = .ok val w ∧ RepV T w H ρ u' val ∧ K u' := by
  unfold idxK at h
  split at h
  · rename_i k i
    have := rep_int hi
    subst this
    split at h
    · rename_i α full t' enc l
      cases hb : Nat.beq t' e with
      | false => rw [hb] at h; exact h.elim
      | true =>
        rw [hb] at h
        simp only [cond_true] at h
        have := Nat.eq_of_beq_eq_true hb
        subst this
        obtain ⟨⟨h0, h1⟩, h2⟩ := h
        obtain ⟨x, hx⟩ : ∃ x, l[i.toNat]? = some x := ⟨_, List.getElem?_eq_getElem (by omega)⟩
        have h3 := (h2.all x).hyp hx
        rw [forceL_eq] at h3
        obtain ⟨a, c, ti', vs, rfl, hti', hsz, hc0, hbb, hl, hc, hf, ha, hrr⟩ := rep_slt hr
        rw [hti'] at hti
        cases hti
        obtain ⟨b, o, rfl, hO, hcell⟩ := ha (by intro h'; subst h'; simp at hx)
        refine ⟨_, .rptr (enc x) 0, indexAt_run hu hty b o l.length c k i h0 h1, ⟨b, o + i.toNat * ti.cells, rfl, ?_, hO, fun j u hj => ?_⟩, h3⟩
        · have := cell_lt (hcell i.toNat (by omega) 0 hc0)
          simpa using this
        · have hjl : j < ti.cells := by
            have := (List.getElem?_eq_some_iff.1 hj).1
            rwa [hsz x (List.mem_of_getElem? hx)] at this
          exact ⟨vs i.toNat j, by rw [Nat.add_assoc]; exact hcell _ (by omega) _ hjl, hrr _ _ hx _ _ hj⟩
    · rename_i k' off len
      cases hb : eltIs H k' e with
      | false => rw [hb] at h; exact h.elim
      | true =>
        rw [hb] at h
        obtain ⟨⟨h0, h1⟩, h2⟩ := h
        simp only [RepV, RepA, Rep1] at hr
        obtain ⟨t', n, ti', c, h3, h4, h5, h6⟩ := hr
        have het : t' = e := by
          unfold eltIs at hb
          revert hb h3
          cases hget H k' with
          | box => intro hb _; cases hb
          | dead => intro hb _; cases hb
          | map => intro hb _; cases hb
          | arr t₁ enc hc l => intro hb h3; simp [Obj.len, Obj.elems] at h3; exact h3.1.symm.trans (Nat.eq_of_beq_eq_true hb)
          | arrl t₁ ls => intro hb h3; simp [Obj.len, Obj.elems] at h3; exact h3.1.symm.trans (Nat.eq_of_beq_eq_true hb)
        subst het
        rw [h4] at hti
        cases hti
        rcases h6 with ⟨h7, h7', _, rfl⟩ | ⟨b, p, cap, o, h7, h8, h9, h10, rfl⟩
        · subst h7'
          simp at h1
          omega
        · refine ⟨_, .elt k' (Nat.add off i.toNat) 0, indexAt_run hu hty b _ len c k i h0 h1, ⟨t', n, ti, b, p, cap, h3, h4, ?_, h7, ?_⟩, h2⟩
          rotate_left
          rw [h10 (by omega)]
          rotate_right
          · show off + i.toNat < n
            omega
          · rw [Nat.add_zero, show Nat.add off i.toNat = off + i.toNat from rfl, Nat.add_mul, Nat.add_assoc]
    · exact h.elim
  · exact h.elim

theorem bs_get (s : List UInt8) (i : Nat) : (bs s)[i]? = s[i]? := by
  by_cases h : i < s.length
  · have h' : i < (bs s).size := h
    rw [getElem?_pos (bs s) i h', getElem?_pos s i h]
    rfl
  · have h' : ¬ i < (bs s).size := h
    rw [getElem?_neg (bs s) i h', getElem?_neg s i h]
theorem strIdxK_ok {t : TypeId} (hu : P.underlying t = some .string) {i : AV} {vi : Value} {K : AV → Prop} (h : strIdxK u i K) (hr : RepV T w H ρ u v) (hi : RepV T w H ρ i vi) :
    ∃ val u', (Instr.index t v vi).run P w = .ok val w ∧ RepV T w H ρ u' val ∧ K u' := by
  unfold strIdxK at h
  split at h
  · rename_i k i
    have := rep_int hi
    subst this
    split at h
    · rename_i s
      obtain ⟨rfl, hs⟩ := rep_str hr
      obtain ⟨⟨h0, h1⟩, h2⟩ := h
      obtain ⟨c, hc⟩ : ∃ c, s[i.toNat]? = some c := ⟨_, List.getElem?_eq_getElem (by omega)⟩
      refine ⟨_, .int .u8 c.toNat, ?_, .int _ _, (h2.all c).hyp hc⟩
      simp [Instr.index, asIntOf, run_underlying hu, h0, bs_get, hc]
    · exact h.elim
  · exact h.elim
end
end Go.V


set_option linter.unusedVariables false
set_option linter.unusedSimpArgs false
namespace Go.V
section
variable {P : Program} {T : Ctx} {w : World} {H : Heap} {ρ : Places} {u : AV} {v : Value}

/-! ### Lengths -/
def lenK (tk : TK) (x : AV) (K : AV → Prop) : Prop := match tk with
  | .str => (match x with
    | .str s => Hyp (s.length ≤ maxS) (K (.int .i64 s.length))
    | _ => False)
  | .slice _ => (match x with
    | @AV.slt _ _ _ _ l => Hyp (l.length ≤ maxB) (K (.int .i64 l.length))
    | .own _ _ len => Hyp (len ≤ maxB) (K (.int .i64 len))
    | .nils => K (.int .i64 0)
    | _ => False)
  | _ => False
theorem ty_slice {t : TypeId} {ti : TI} (ht : TyR P t ti) {e : Nat} (hk : ti.kind = .slice e) : P.underlying t = some (.slice e) := by
  have := ht.kind
  rw [hk] at this
  simp only [kindOk] at this
  split at this
  · rename_i hu; simp at this; rw [this.1]; exact hu
  · cases this
theorem ty_str {t : TypeId} {ti : TI} (ht : TyR P t ti) (hk : ti.kind = .str) : P.underlying t = some .string := by
  have := ht.kind
  rw [hk] at this
  simp only [kindOk] at this
  split at this
  · assumption
  · cases this
theorem ty_bool {t : TypeId} {ti : TI} (ht : TyR P t ti) (hk : ti.kind = .bool) : P.underlying t = some .bool := by
  have := ht.kind
  rw [hk] at this
  simp only [kindOk] at this
  split at this
  · assumption
  · cases this
theorem ty_int {t : TypeId} {ti : TI} (ht : TyR P t ti) {k : IntKind} (hk : ti.kind = .int k) : P.underlying t = some (.int k) := by
  have := ht.kind
  rw [hk] at this
  simp only [kindOk] at this
  split at this
  · rename_i hu; simp at this; rw [this.1]; exact hu
  · cases this
theorem ty_ptr {t : TypeId} {ti : TI} (ht : TyR P t ti) (hk : ti.kind = .ptr) : ∃ e, P.underlying t = some (.pointer e) := by
  have := ht.kind
  rw [hk] at this
  simp only [kindOk] at this
  split at this
  · rename_i hu; exact ⟨_, hu⟩
  · cases this
theorem own_len {k off len : Nat} (hH : HeapR T w H ρ) (hr : RepV T w H ρ (.own k off len) v) : len ≤ maxB ∧ ∃ a c, v = .slice a len c := by
  simp only [RepV, RepA, Rep1] at hr
  obtain ⟨t', n, ti', c, h3, h4, h5, h6⟩ := hr
  have hobj := hH.obj k
  have hn : ∃ t ls, ArrR T w H ρ k t ls ∧ ls.length = n := by
    revert hobj h3
    cases hget H k with
    | box => intro h3; simp [Obj.len, Obj.elems] at h3
    | dead => intro h3; simp [Obj.len, Obj.elems] at h3
    | map => intro h3; simp [Obj.len, Obj.elems] at h3
    | arr t₁ enc hc l => intro h3 hobj; simp only [Obj.len, Obj.elems, Option.map_some, Option.some.injEq, Prod.mk.injEq] at h3; exact ⟨_, _, hobj, h3.2⟩
    | arrl t₁ ls => intro h3 hobj; simp only [Obj.len, Obj.elems, Option.map_some, Option.some.injEq, Prod.mk.injEq] at h3; exact ⟨_, _, hobj, h3.2⟩
  obtain ⟨t, ls, ⟨ti, _, _, _, h7⟩, rfl⟩ := hn
  have hmax : ls.length ≤ maxB := by
    rcases h7 with ⟨_, h8⟩ | ⟨b, p, c, vs, fr, _, _, _, _, _, _, h8, _⟩
    · subst h8; simp [maxB]
    · exact h8
  rcases h6 with ⟨h7', rfl, _, rfl⟩ | ⟨b, p, cap, o, h7', h8, h9, _, rfl⟩
  · exact ⟨Nat.zero_le _, _, _, rfl⟩
  · exact ⟨by omega, _, _, rfl⟩
theorem lenK_ok {t ty : TypeId} {ti : TI} (ht : TyR P t ti) (hH : HeapR T w H ρ) {K : AV → Prop} (h : lenK ti.kind u K) (hr : RepV T w H ρ u v) :
    ∃ val u', (Builtin.len_ #[t] ty #[v]).run P w = .ok val w ∧ RepV T w H ρ u' val ∧ K u' := by
  unfold lenK at h
  split at h
  · rename_i hk
    have hu := ty_str ht hk
    split at h
    · rename_i s
      obtain ⟨rfl, hs⟩ := rep_str hr
      exact ⟨_, .int .i64 s.length, by simp [Builtin.len_, run_underlying hu, goInt]; rfl, .int _ _, h.hyp hs⟩
    · exact h.elim
  · rename_i e hk
    have hu := ty_slice ht hk
    split at h
    · obtain ⟨a, c, ti', vs, rfl, _, _, _, _, hl, _⟩ := rep_slt hr
      exact ⟨_, .int .i64 _, by simp [Builtin.len_, run_underlying hu, goInt]   , .int _ _, h.hyp hl⟩
    · obtain ⟨hl, a, c, rfl⟩ := own_len hH hr
      exact ⟨_, .int .i64 _, by simp [Builtin.len_, run_underlying hu, goInt]   , .int _ _, h.hyp hl⟩
    · have := rep_nils hr
      subst this
      exact ⟨_, .int .i64 0, by simp [Builtin.len_, run_underlying hu, goInt], .int _ _, h⟩
    · exact h.elim
  · exact h.elim

/-! ### Numbers, texts, truth -/
def InI (n : Int) : Prop := -9223372036854775808 ≤ n ∧ n ≤ 9223372036854775807
def i64K (n : Int) (K : AV → Prop) : Prop := Ob (InI n) (K (.int .i64 n))
def wrapK (k : IntKind) (n : Int) (K : AV → Prop) : Prop := match k with
  | .i64 => i64K n K
  | k => K (.int k (k.wrap n))
theorem wrapK_eq {k : IntKind} {n : Int} {K : AV → Prop} (h : wrapK k n K) : K (.int k (k.wrap n)) := by
  cases k <;> first | exact h | (rw [IntWalk.i64_in _ h.ob]; exact h.go)
def kidx : IntKind → Nat
  | .i8 => 0 | .i16 => 1 | .i32 => 2 | .i64 => 3 | .u8 => 4 | .u16 => 5 | .u32 => 6 | .u64 => 7
theorem kidx_inj {a b : IntKind} (h : Nat.beq (kidx a) (kidx b) = true) : a = b := by
  have := Nat.eq_of_beq_eq_true h
  cases a <;> cases b <;> first | rfl | (simp [kidx] at this)
def intOp (op : BinOp) (k : IntKind) (a b : Int) (K : AV → Prop) : Prop := match op with
  | .add => wrapK k (a + b) K
  | .sub => wrapK k (a - b) K
  | .mul => wrapK k (a * b) K
  | .quo => Ob (0 ≤ a ∧ 0 < b) (wrapK k (a / b) K)
  | .rem => Ob (0 ≤ a ∧ 0 < b) (K (.int k (a % b)))
  | .eql => K (.bool (decide (a = b)))
  | .neq => K (.bool (!decide (a = b)))
  | .lss => K (.bool (decide (a < b)))
  | .leq => K (.bool (decide (a ≤ b)))
  | .gtr => K (.bool (decide (b < a)))
  | .geq => K (.bool (decide (b ≤ a)))
  | .and => K (.int k (k.wrap ((BitVec.ofInt k.bits a) &&& (BitVec.ofInt k.bits b)).toNat))
  | .or => K (.int k (k.wrap ((BitVec.ofInt k.bits a) ||| (BitVec.ofInt k.bits b)).toNat))
  | .xor => K (.int k (k.wrap ((BitVec.ofInt k.bits a) ^^^ (BitVec.ofInt k.bits b)).toNat))
  | .andNot => K (.int k (k.wrap ((BitVec.ofInt k.bits a) &&& ~~~(BitVec.ofInt k.bits b)).toNat))
  | _ => False
def strOp (op : BinOp) (a b : List UInt8) (K : AV → Prop) : Prop := match op with
  | .add => Ob (a.length + b.length ≤ maxS) (K (.str (a ++ b)))
  | .eql => K (.bool (decide (a = b)))
  | .neq => K (.bool (!decide (a = b)))
  | .lss => K (.bool (Op.bytesLess a b))
  | .geq => K (.bool (!Op.bytesLess a b))
  | .leq => K (.bool (Op.bytesLess a b || decide (a = b)))
  | .gtr => K (.bool (!(Op.bytesLess a b || decide (a = b))))
  | _ => False
/-- Is it the nil pointer? -/
def nilq : AV → Option Bool
  | .nilp => some true
  | .box _ _ => some false
  | .elt _ _ _ => some false
  | .rptr _ _ => some false
  | _ => none
def boolq : AV → Option Bool
  | .tt => some true
  | .ff => some false
  | .bool b => some b
  | _ => none
def lit (b : Bool) : AV := match b with | true => .tt | false => .ff
def ptrOp (op : BinOp) (x y : AV) (K : AV → Prop) : Prop := match nilq x, nilq y with
  | some a, some b => (match a, b with
    | true, true => (match op with | .eql => K .tt | .neq => K .ff | _ => False)
    | true, false => (match op with | .eql => K .ff | .neq => K .tt | _ => False)
    | false, true => (match op with | .eql => K .ff | .neq => K .tt | _ => False)
    | false, false => False)
  | _, _ => False
def intK (op : BinOp) (k : IntKind) (a : Int) (k' : IntKind) (b : Int) (K : AV → Prop) : Prop := bif Nat.beq (kidx k) (kidx k') then intOp op k a b K else False
def eqK (op : BinOp) (b : Bool) (K : AV → Prop) : Prop := match op with
  | .eql => K (.bool b)
  | .neq => K (.bool (!b))
  | _ => False
/-- A slice beside nil: what is known is that a slice with elements is not nil. -/
def sliceOp (op : BinOp) (x y : AV) (K : AV → Prop) : Prop := match y with
  | .nils => (match x with
    | .slt _ _ _ l => All fun b : Bool => Hyp (b = true → l = []) (eqK op b K)
    | .own _ _ len => All fun b : Bool => Hyp (b = true → len = 0) (eqK op b K)
    | .nils => eqK op true K
    | _ => False)
  | _ => False
def bopK (op : BinOp) (tk : TK) (x y : AV) (K : AV → Prop) : Prop := match x with
  | .int k a => (match y with
    | .int k' b => intK op k a k' b K
    | _ => False)
  | .str a => (match y with
    | .str b => strOp op a b K
    | _ => False)
  | x => (match tk with
    | .bool => (match boolq x, boolq y with
      | some a, some b => (match op with | .eql => K (.bool (a == b)) | .neq => K (.bool (!(a == b))) | _ => False)
      | _, _ => False)
    | .ptr => ptrOp op x y K
    | .slice _ => sliceOp op x y K
    | _ => False)
theorem RepV.litb (b : Bool) : RepV T w H ρ (.bool b) (.bool b) := .bool b
theorem RepV.inte (k : IntKind) (n : Int) : RepV T w H ρ (.int k n) (.int k n) := .int k n
theorem beqI (a b : Int) : (a == b) = decide (a = b) := by by_cases h : a = b <;> simp [h]
theorem bneI (a b : Int) : (a != b) = !decide (a = b) := by by_cases h : a = b <;> simp [h]
theorem beqL (a b : List UInt8) : (a == b) = decide (a = b) := by by_cases h : a = b <;> simp [h]
theorem intOp_ok {op : BinOp} {t : TypeId} {k : IntKind} {a b : Int} {K : AV → Prop} (h : intOp op k a b K) (x y : Operand) :
    ∃ val u', (do eqGuard op t x y (.int k a) (.int k b); binOp op t (.int k a) (.int k b)).run P w = .ok val w ∧ RepV T w H ρ u' val ∧ K u' := by
  rw [eqGuard_at_int]
  have hn := fun h1 : (0 : Int) < b => Int.ne_of_gt h1
  cases op <;> simp only [intOp] at h <;> first
    | exact h.elim
    | exact ⟨_, _, by simp [binOp, Op.intArith], .inte _ _, wrapK_eq h⟩
    | exact ⟨_, _, by simp [binOp, Op.intBits], .inte _ _, h⟩
    | exact ⟨_, _, by simp [binOp, Op.intCmp, beqI, bneI], .litb _, h⟩
    | skip
  · obtain ⟨⟨h0, h1⟩, h2⟩ := h
    exact ⟨.int k (k.wrap (a / b)), .int k (k.wrap (a / b)), by simp [binOp, Op.intDiv, hn h1, Int.tdiv_eq_ediv_of_nonneg h0], .inte _ _, wrapK_eq h2⟩
  · obtain ⟨⟨h0, h1⟩, h2⟩ := h
    exact ⟨.int k (a % b), .int k (a % b), by simp [binOp, Op.intDiv, hn h1, Int.tmod_eq_emod_of_nonneg h0], .inte _ _, h2⟩
theorem bs_toList (s : List UInt8) : (bs s).toList = s := by rw [ByteArray.toList_eq]; rfl
theorem bs_size (s : List UInt8) : (bs s).size = s.length := rfl
theorem bs_append (s t : List UInt8) : bs s ++ bs t = bs (s ++ t) := by
  have h : (bs s ++ bs t).data = (bs s).data ++ (bs t).data := ByteArray.data_append
  cases hx : (bs s ++ bs t) with
  | mk d =>
    rw [hx] at h
    simp only at h
    subst h
    simp [bs]
theorem strOp_ok {op : BinOp} {t : TypeId} {a b : List UInt8} {K : AV → Prop} (h : strOp op a b K) (x y : Operand) :
    ∃ val u', (do eqGuard op t x y (.string (bs a)) (.string (bs b)); binOp op t (.string (bs a)) (.string (bs b))).run P w = .ok val w ∧ RepV T w H ρ u' val ∧ K u' := by
  rw [eqGuard_at_string]
  cases op <;> simp only [strOp] at h <;> first
    | exact h.elim
    | skip
  · obtain ⟨h0, h1⟩ := h
    have hs : (a ++ b).length ≤ maxS := by simpa using h0
    refine ⟨.string (bs (a ++ b)), .str (a ++ b), ?_, RepV.of1 (RepF.str (a ++ b) hs).rep1, h1⟩
    unfold maxS at h0
    have : ¬ ((9223372036854775807 : Int) < (a.length + b.length : Nat)) := by omega
    simp [binOp, Op.stringOp, bs_size, bs_append] at this ⊢
    omega
  · exact ⟨.bool (decide (a = b)), .bool (decide (a = b)), by simp [binOp, Op.stringOp, bs_toList, beqL], .litb _, h⟩
  · exact ⟨.bool (!decide (a = b)), .bool (!decide (a = b)), by simp [binOp, Op.stringOp, bs_toList, beqL], .litb _, h⟩
  · exact ⟨.bool (Op.bytesLess a b), .bool (Op.bytesLess a b), by simp [binOp, Op.stringOp, bs_toList, beqL], .litb _, h⟩
  · exact ⟨.bool (Op.bytesLess a b || decide (a = b)), .bool (Op.bytesLess a b || decide (a = b)), by simp [binOp, Op.stringOp, bs_toList, beqL], .litb _, h⟩
  · exact ⟨.bool (!(Op.bytesLess a b || decide (a = b))), .bool (!(Op.bytesLess a b || decide (a = b))), by simp [binOp, Op.stringOp, bs_toList, beqL], .litb _, h⟩
  · exact ⟨.bool (!Op.bytesLess a b), .bool (!Op.bytesLess a b), by simp [binOp, Op.stringOp, bs_toList, beqL], .litb _, h⟩
end
end Go.V


set_option linter.unusedVariables false
set_option linter.unusedSimpArgs false
namespace Go.V
section
variable {P : Program} {T : Ctx} {w : World} {H : Heap} {ρ : Places} {u u2 : AV} {v v2 : Value}

theorem boolq_ok {b : Bool} (h : boolq u = some b) (hr : RepV T w H ρ u v) : v = .bool b := by
  cases u <;> simp [boolq] at h
  · subst h; exact rep_tt hr
  · subst h; exact rep_ff hr
  · subst h; exact rep_bool hr
theorem nilq_ok {b : Bool} (h : nilq u = some b) (hr : RepV T w H ρ u v) : ∃ a, v = .pointer a ∧ a.isNone = b := by
  cases u <;> simp [nilq] at h <;> subst h
  · simp only [RepV, RepA, Rep1] at hr; obtain ⟨b, c, n, _, _, rfl⟩ := hr; exact ⟨_, rfl, rfl⟩
  · simp only [RepV, RepA, Rep1] at hr; obtain ⟨t, n, ti, b, p, c, _, _, _, _, rfl⟩ := hr; exact ⟨_, rfl, rfl⟩
  · simp only [RepV, RepA, Rep1] at hr; obtain ⟨b, p, rfl, _⟩ := hr; exact ⟨_, rfl, rfl⟩
  · have := rep_nilp hr; subst this; exact ⟨_, rfl, rfl⟩
theorem RepV.tt : RepV T w H ρ .tt (.bool true) := RepF.tt
theorem RepV.ff : RepV T w H ρ .ff (.bool false) := RepF.ff
theorem eqlIn_bool (d : Nat) {t : TypeId} (hu : P.underlying t = some .bool) (a b : Bool) : (Op.equalIn (d + 1) t (.bool a) (.bool b)).run P w = .ok (a == b) w := by
  simp [Op.equalIn, run_underlying hu]
theorem eqlIn_ptr (d : Nat) {t e : TypeId} (hu : P.underlying t = some (.pointer e)) (a b : Option Addr) (h : a.isNone = true ∨ b.isNone = true) : (Op.equalIn (d + 1) t (.pointer a) (.pointer b)).run P w = .ok (a.isNone && b.isNone) w := by
  cases a <;> cases b <;> simp at h <;> simp [Op.equalIn, run_underlying hu]
theorem eql_bool {t : TypeId} (hu : P.underlying t = some .bool) (a b : Bool) : (Op.equal t (.bool a) (.bool b)).run P w = .ok (a == b) w := eqlIn_bool 9999 hu a b
theorem eql_ptr {t e : TypeId} (hu : P.underlying t = some (.pointer e)) (a b : Option Addr) (h : a.isNone = true ∨ b.isNone = true) : (Op.equal t (.pointer a) (.pointer b)).run P w = .ok (a.isNone && b.isNone) w := eqlIn_ptr 9999 hu a b h
theorem intK_ok {op : BinOp} {t : TypeId} {k k' : IntKind} {a b : Int} {K : AV → Prop} (h : intK op k a k' b K) (hr : RepV T w H ρ (.int k a) v) (hr2 : RepV T w H ρ (.int k' b) v2) (x y : Operand) :
    ∃ val u', (do eqGuard op t x y v v2; binOp op t v v2).run P w = .ok val w ∧ RepV T w H ρ u' val ∧ K u' := by
  unfold intK at h
  cases hb : Nat.beq (kidx k) (kidx k') with
  | false => rw [hb] at h; exact h.elim
  | true =>
    rw [hb] at h
    have := kidx_inj hb
    subst this
    have e1 := rep_int hr
    have e2 := rep_int hr2
    subst e1; subst e2
    exact intOp_ok h x y
theorem eqlIn_slice (d : Nat) {t e : TypeId} (hu : P.underlying t = some (.slice e)) (a : Option Addr) (n c : Nat) : (Op.equalIn (d + 1) t (.slice a n c) (.slice none 0 0)).run P w = .ok a.isNone w := by
  cases a <;> simp [Op.equalIn, run_underlying hu]
theorem eql_slice {t e : TypeId} (hu : P.underlying t = some (.slice e)) (a : Option Addr) (n c : Nat) : (Op.equal t (.slice a n c) (.slice none 0 0)).run P w = .ok a.isNone w := eqlIn_slice 9999 hu a n c
theorem sliceOp_ok {op : BinOp} {t e : TypeId} (hu : P.underlying t = some (.slice e)) {K : AV → Prop} (h : sliceOp op u u2 K) (hr : RepV T w H ρ u v) (hr2 : RepV T w H ρ u2 v2) (x y : Operand) :
    ∃ val u', (do eqGuard op t x y v v2; binOp op t v v2).run P w = .ok val w ∧ RepV T w H ρ u' val ∧ K u' := by
  have key : ∀ (a : Option Addr) (n c : Nat) (b : Bool), a.isNone = b → eqK op b K →
      ∃ val u', (do eqGuard op t x y (.slice a n c) (.slice none 0 0); binOp op t (.slice a n c) (.slice none 0 0)).run P w = .ok val w ∧ RepV T w H ρ u' val ∧ K u' := by
    intro a n c b hb hk
    have hg : ∀ op, eqGuard op t x y (.slice a n c) (.slice none 0 0) = pure () := by intro op; cases op <;> rfl
    rw [hg]
    subst hb
    unfold eqK at hk
    split at hk
    · exact ⟨.bool a.isNone, .bool a.isNone, by simp [binOp, eql_slice hu], .litb _, hk⟩
    · exact ⟨.bool (!a.isNone), .bool (!a.isNone), by simp [binOp, eql_slice hu], .litb _, hk⟩
    · exact hk.elim
  cases u2 <;> first | exact (show False from h).elim | skip
  have := rep_nils hr2
  subst this
  cases u <;> first | exact (show False from h).elim | skip
  · rename_i α full t' enc l
    obtain ⟨a, c, ti, vs, rfl, _, _, _, _, _, _, _, ha, _⟩ := rep_slt hr
    have h' : All fun b : Bool => Hyp (b = true → l = []) (eqK op b K) := h
    refine key a _ c a.isNone rfl ((h'.all a.isNone).hyp fun hn => ?_)
    by_cases hl : l = []
    · exact hl
    · obtain ⟨b, o, e1, _⟩ := ha hl
      rw [e1] at hn
      simp at hn
  · have := rep_nils hr
    subst this
    exact key none 0 0 true rfl h
  · rename_i k off len
    have h' : All fun b : Bool => Hyp (b = true → len = 0) (eqK op b K) := h
    obtain ⟨t', n, ti, c, _, _, _, h4⟩ := hr
    rcases h4 with ⟨_, h5, a, rfl⟩ | ⟨b, p, cap, o, _, _, _, _, rfl⟩
    · exact key a 0 0 a.isNone rfl ((h'.all a.isNone).hyp fun _ => h5)
    · exact key _ _ _ false rfl ((h'.all false).hyp fun hn => by simp at hn)
theorem bopK_ok {op : BinOp} {t : TypeId} {ti : TI} (ht : TyR P t ti) {K : AV → Prop} (h : bopK op ti.kind u u2 K) (hr : RepV T w H ρ u v) (hr2 : RepV T w H ρ u2 v2) (x y : Operand) :
    ∃ val u', (do eqGuard op t x y v v2; binOp op t v v2).run P w = .ok val w ∧ RepV T w H ρ u' val ∧ K u' := by
  unfold bopK at h
  split at h
  · split at h
    · exact intK_ok h hr hr2 x y
    · exact h.elim
  · split at h
    · obtain ⟨rfl, _⟩ := rep_str hr
      obtain ⟨rfl, _⟩ := rep_str hr2
      exact strOp_ok h x y
    · exact h.elim
  · split at h
    · rename_i hk
      have hu := ty_bool ht hk
      split at h
      · rename_i a b ha hb
        have e1 := boolq_ok ha hr
        have e2 := boolq_ok hb hr2
        subst e1; subst e2
        rw [eqGuard_at_bool]
        split at h
        · exact ⟨.bool (a == b), .bool (a == b), by simp [binOp, eql_bool hu], .litb _, h⟩
        · exact ⟨.bool (!(a == b)), .bool (!(a == b)), by simp [binOp, eql_bool hu], .litb _, h⟩
        · exact h.elim
      · exact h.elim
    · rename_i hk
      obtain ⟨e, hu⟩ := ty_ptr ht hk
      unfold ptrOp at h
      split at h
      · rename_i a b ha hb
        obtain ⟨p, rfl, hp⟩ := nilq_ok ha hr
        obtain ⟨q, rfl, hq⟩ := nilq_ok hb hr2
        rw [eqGuard_at_pointer]
        subst hp; subst hq
        have key : ∀ (c : Bool), (p.isNone = true ∨ q.isNone = true) → (p.isNone && q.isNone) = c → (∀ {K : AV → Prop}, op = .eql → K (lit c) → ∃ val u', (do pure (); binOp op t (.pointer p) (.pointer q) : Sem Value).run P w = .ok val w ∧ RepV T w H ρ u' val ∧ K u') ∧
            (∀ {K : AV → Prop}, op = .neq → K (lit !c) → ∃ val u', (do pure (); binOp op t (.pointer p) (.pointer q) : Sem Value).run P w = .ok val w ∧ RepV T w H ρ u' val ∧ K u') := by
          intro c hn hc
          constructor
          · rintro K rfl hK
            exact ⟨.bool c, lit c, by simp [binOp, eql_ptr hu p q hn, hc], by cases c <;> first | exact .tt | exact .ff, hK⟩
          · rintro K rfl hK
            exact ⟨.bool (!c), lit !c, by simp [binOp, eql_ptr hu p q hn, hc], by cases c <;> first | exact .tt | exact .ff, hK⟩
        split at h
        · rename_i e1 e2
          have := key true (.inl e1) (by simp [e1, e2])
          split at h
          · exact this.1 rfl h
          · exact this.2 rfl h
          · exact h.elim
        · rename_i e1 e2
          have := key false (.inl e1) (by simp [e1, e2])
          split at h
          · exact this.1 rfl h
          · exact this.2 rfl h
          · exact h.elim
        · rename_i e1 e2
          have := key false (.inr e2) (by simp [e1, e2])
          split at h
          · exact this.1 rfl h
          · exact this.2 rfl h
          · exact h.elim
        · exact h.elim
      · exact h.elim
    · rename_i e hk
      exact sliceOp_ok (ty_slice ht hk) h hr hr2 x y
    · exact h.elim

def unK (op : UnOp) (x : AV) (K : AV → Prop) : Prop := match op with
  | .not => (match x with | .tt => K .ff | .ff => K .tt | .bool b => K (.bool (!b)) | _ => False)
  | .neg => (match x with | .int k n => wrapK k (0 - n) K | _ => False)
  | _ => False
theorem unK_ok {op : UnOp} {K : AV → Prop} (h : unK op u K) (hr : RepV T w H ρ u v) :
    ∃ val u', (Op.unary op v).run P w = .ok val w ∧ RepV T w H ρ u' val ∧ K u' := by
  unfold unK at h
  split at h
  · split at h
    · have := rep_tt hr; subst this; exact ⟨_, .ff, by simp [Op.unary], .ff, h⟩
    · have := rep_ff hr; subst this; exact ⟨_, .tt, by simp [Op.unary], .tt, h⟩
    · have := rep_bool hr; subst this; exact ⟨_, _, by simp [Op.unary], .litb _, h⟩
    · exact h.elim
  · split at h
    · have := rep_int hr; subst this; exact ⟨_, _, by simp only [Op.unary, Op.intArith]; rfl, .inte _ _, wrapK_eq h⟩
    · exact h.elim
  · exact h.elim

def convK (src dst : TK) (x : AV) (K : AV → Prop) : Prop := match x with
  | .int _ n => (match dst with | .int k => wrapK k n K | _ => False)
  | .str s => (match dst with | .str => K (.str s) | _ => False)
  | _ => False
theorem convK_ok {s d : TypeId} {ti tj : TI} (hs : TyR P s ti) (hd : TyR P d tj) {K : AV → Prop} (h : convK ti.kind tj.kind u K) (hr : RepV T w H ρ u v) :
    ∃ val u', (convert s d v).run P w = .ok val w ∧ RepV T w H ρ u' val ∧ K u' := by
  have hsu : ∃ x, P.underlying s = some x := by
    have := hs.kind
    unfold kindOk at this
    split at this <;> (split at this <;> first | (exact ⟨_, by assumption⟩) | cases this | skip)
    rename_i h1 h2 h3
    cases hu : P.underlying s with
    | none => exact absurd hu h3
    | some x => exact ⟨x, rfl⟩
  obtain ⟨x, hx⟩ := hsu
  unfold convK at h
  split at h
  · split at h
    · rename_i k n k' hk
      have := rep_int hr
      subst this
      have hu := ty_int hd hk
      exact ⟨_, _, by simp [convert, run_underlying hx, run_underlying hu, Conv.intToInt], .inte _ _, wrapK_eq h⟩
    · exact h.elim
  · split at h
    · rename_i hk
      have hu := ty_str hd hk
      obtain ⟨rfl, hl⟩ := rep_str hr
      exact ⟨.string (bs _), .str _, by simp [convert, run_underlying hx, run_underlying hu], hr, h⟩
    · exact h.elim
  · exact h.elim
end
end Go.V

