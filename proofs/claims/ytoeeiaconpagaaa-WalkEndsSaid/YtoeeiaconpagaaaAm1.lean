/- An abstract machine for the loaded program (values, blocks, operations) and the soundness of its operations. No condition. -/
import Derived.Calls
import GoSem.Dispatch
import Derived.Laws.AppendOwn
import Derived.Laws.CopyRow
import Derived.Deep.DeepMust
import Derived.ChangeKeysEq
import Derived.Laws.StructEq
import Derived.Laws.Cover3
set_option linter.unusedVariables false
set_option linter.unusedSimpArgs false
set_option linter.unnecessarySimpa false
namespace Go.AM

/-- Abstract values. -/
inductive AV where
  | bool (b : Bool) | int (k : IntKind) (n : Int) | str (s : ByteArray)
  | agg (cs : List AV) | tup (vs : List AV)
  | nilp | ptr (id off : Nat) | vptr (cs : List AV) (off : Nat)
  | nils | emp | lit (sz : Nat) (es : List AV) | slice (id off len sz : Nat)
  | nilmap | mapr (id : Nat)
  | nilfn | fn (f : Nat) (cap : List AV)
  | nilif | iface (t : Nat) (v : AV)
  | undef
  deriving Inhabited

def AV.cells : AV → List AV
  | .agg cs => cs
  | v => [v]

/-- The value of one cell? -/
def AV.one : AV → Bool
  | .agg _ | .tup _ | .undef => false
  | _ => true

/-- A value that a variable may hold? -/
def AV.val : AV → Bool
  | .tup _ | .undef => false
  | .agg cs => cs.all AV.one
  | _ => true

/-- Blocks of the call's own. -/
inductive Blk where
  | cells (cs : List AV)
  | map (es : List (AV × AV))
  deriving Inhabited

abbrev Heap := List (Option Blk)
abbrev Snap := Nat → Option Obj
abbrev Inj := Nat → Option (Nat × Nat × Nat)
/-- What the caller keeps: blocks, and what lies outside memory. -/
structure Lk where
  f : Nat → Option Obj
  o : Os × (Nat → Question → Nat) × Array (Nat × ByteArray)
instance : CoeFun Lk (fun _ => Nat → Option Obj) := ⟨Lk.f⟩
def outs (w : World) : Os × (Nat → Question → Nat) × Array (Nat × ByteArray) := (w.os, w.tape, w.output)

def Heap.at (h : Heap) (id : Nat) : Option Blk := (h[id]?).join

/-- An object whose cells from `off` on begin with `vs`. -/
def holdsAt (obj : Obj) (off : Nat) (vs : List Value) : Prop :=
  ∃ c e fz, obj = .cells c e fz ∧ off + vs.length ≤ c.size ∧ ∀ j v, vs[j]? = some v → c[off + j]? = some v

def flatV (vs : List Value) : List Value := vs.flatMap fun v => v.cells.toList

mutual
def VR (G : Snap) (I : Inj) : AV → Value → Prop
  | .bool b, c => c = .bool b
  | .int k n, c => c = .int k n
  | .str s, c => c = .string s
  | .agg cs, c => ∃ vs : List Value, c = .agg vs.toArray ∧ VRs G I cs vs
  | .tup cs, c => ∃ vs : List Value, c = .tuple vs.toArray ∧ VRs G I cs vs
  | .nilp, c => c = .pointer none
  | .ptr id off, c => ∃ b base ext, I id = some (b, base, ext) ∧ c = .pointer (some ⟨b, base + off, none⟩)
  | .vptr cs off, c => ∃ b o obj, ∃ vs : List Value, c = .pointer (some ⟨b, o + off, none⟩) ∧ G b = some obj ∧ VRs G I cs vs ∧ holdsAt obj o vs
  | .nils, c => c = .slice none 0 0
  | .emp, c => ∃ a, c = .slice a 0 0
  | .lit sz es, c => (es = [] ∧ ∃ a cap, c = .slice a 0 cap) ∨
      ∃ b o obj cap, ∃ vs : List Value, c = .slice (some ⟨b, o, none⟩) es.length cap ∧ es.length ≤ cap ∧ G b = some obj ∧ VRs G I es vs ∧ holdsAt obj o (flatV vs) ∧
        (∀ v ∈ vs, v.cells.size = sz) ∧ es.all AV.val = true
  | .slice id off len sz, c => (len = 0 ∧ ∃ a, c = .slice a 0 0) ∨
      ∃ b base ext cap, I id = some (b, base, ext) ∧ c = .slice (some ⟨b, base + off, none⟩) len cap ∧ len ≤ cap ∧ off + cap * sz ≤ ext
  | .nilmap, c => c = .map none
  | .mapr id, c => ∃ b base ext, I id = some (b, base, ext) ∧ c = .map (some b)
  | .nilfn, c => c = .nilFunc
  | .fn f cap, c => ∃ vs : List Value, c = .func (.func f) #[] vs.toArray ∧ VRs G I cap vs
  | .nilif, c => c = .nilIface
  | .iface t v, c => ∃ v', c = .iface t v' ∧ VR G I v v'
  | .undef, _ => True
def VRs (G : Snap) (I : Inj) : List AV → List Value → Prop
  | [], vs => vs = []
  | a :: as, vs => ∃ v r, vs = v :: r ∧ VR G I a v ∧ VRs G I as r
end

end Go.AM

namespace Go.AM

def Snap.le (G G' : Snap) : Prop := ∀ b o, G b = some o → G' b = some o
def Inj.le (I I' : Inj) : Prop := ∀ i x, I i = some x → I' i = some x
theorem Snap.le_refl (G : Snap) : G.le G := fun _ _ h => h
theorem Snap.le_trans {A B C : Snap} (h : A.le B) (h' : B.le C) : A.le C := fun b o x => h' b o (h b o x)
theorem Inj.le_refl (I : Inj) : I.le I := fun _ _ h => h
theorem Inj.le_trans {A B C : Inj} (h : A.le B) (h' : B.le C) : A.le C := fun b o x => h' b o (h b o x)

section
variable {G G' : Snap} {I I' : Inj}
mutual
theorem VR_mono (hG : G.le G') (hI : I.le I') : ∀ (a : AV) (c : Value), VR G I a c → VR G' I' a c
  | .bool b, c, h => by simpa [VR] using h
  | .int k n, c, h => by simpa [VR] using h
  | .str s, c, h => by simpa [VR] using h
  | .agg cs, c, h => by
    simp only [VR] at h ⊢; obtain ⟨vs, h1, h2⟩ := h; exact ⟨vs, h1, VRs_mono hG hI cs vs h2⟩
  | .tup cs, c, h => by
    simp only [VR] at h ⊢; obtain ⟨vs, h1, h2⟩ := h; exact ⟨vs, h1, VRs_mono hG hI cs vs h2⟩
  | .nilp, c, h => by simpa [VR] using h
  | .ptr id off, c, h => by
    simp only [VR] at h ⊢; obtain ⟨b, ba, e, h1, h2⟩ := h; exact ⟨b, ba, e, hI _ _ h1, h2⟩
  | .vptr cs off, c, h => by
    simp only [VR] at h ⊢; obtain ⟨b, o, obj, vs, h1, h2, h3, h4⟩ := h
    exact ⟨b, o, obj, vs, h1, hG _ _ h2, VRs_mono hG hI cs vs h3, h4⟩
  | .nils, c, h => by simpa [VR] using h
  | .emp, c, h => by simpa [VR] using h
  | .lit sz es, c, h => by
    simp only [VR] at h ⊢
    rcases h with h | ⟨b, o, obj, cap, vs, h1, h2, h3, h4, h5⟩
    · exact .inl h
    · exact .inr ⟨b, o, obj, cap, vs, h1, h2, hG _ _ h3, VRs_mono hG hI es vs h4, h5⟩
  | .slice id off len sz, c, h => by
    simp only [VR] at h ⊢
    rcases h with h | ⟨b, ba, e, cap, h1, h2⟩
    · exact .inl h
    · exact .inr ⟨b, ba, e, cap, hI _ _ h1, h2⟩
  | .nilmap, c, h => by simpa [VR] using h
  | .mapr id, c, h => by
    simp only [VR] at h ⊢; obtain ⟨b, ba, e, h1, h2⟩ := h; exact ⟨b, ba, e, hI _ _ h1, h2⟩
  | .nilfn, c, h => by simpa [VR] using h
  | .fn f cap, c, h => by
    simp only [VR] at h ⊢; obtain ⟨vs, h1, h2⟩ := h; exact ⟨vs, h1, VRs_mono hG hI cap vs h2⟩
  | .nilif, c, h => by simpa [VR] using h
  | .iface t v, c, h => by
    simp only [VR] at h ⊢; obtain ⟨v', h1, h2⟩ := h; exact ⟨v', h1, VR_mono hG hI v v' h2⟩
  | .undef, _, _ => by simp [VR]
theorem VRs_mono (hG : G.le G') (hI : I.le I') : ∀ (as : List AV) (cs : List Value), VRs G I as cs → VRs G' I' as cs
  | [], cs, h => by simpa [VRs] using h
  | a :: as, cs, h => by
    simp only [VRs] at h ⊢; obtain ⟨v, r, h1, h2, h3⟩ := h
    exact ⟨v, r, h1, VR_mono hG hI a v h2, VRs_mono hG hI as r h3⟩
end
end

mutual
def AV.pure : AV → Bool
  | .agg cs => pureL cs
  | .tup cs => pureL cs
  | .ptr .. => false
  | .vptr cs _ => pureL cs
  | .lit _ es => pureL es
  | .slice .. => false
  | .mapr _ => false
  | .fn _ cap => pureL cap
  | .iface _ v => AV.pure v
  | _ => true
def pureL : List AV → Bool
  | [] => true
  | a :: as => AV.pure a && pureL as
end

theorem pureL_all : ∀ l : List AV, pureL l = l.all AV.pure
  | [] => rfl
  | a :: as => by simp [pureL, pureL_all as]

section
variable {G : Snap} {I I' : Inj}
mutual
theorem VR_pure : ∀ (a : AV) (c : Value), a.pure = true → VR G I a c → VR G I' a c
  | .bool b, c, _, h => by simpa [VR] using h
  | .int k n, c, _, h => by simpa [VR] using h
  | .str s, c, _, h => by simpa [VR] using h
  | .agg cs, c, hp, h => by
    simp only [AV.pure] at hp
    simp only [VR] at h ⊢; obtain ⟨vs, h1, h2⟩ := h; exact ⟨vs, h1, VRs_pure cs vs hp h2⟩
  | .tup cs, c, hp, h => by
    simp only [AV.pure] at hp
    simp only [VR] at h ⊢; obtain ⟨vs, h1, h2⟩ := h; exact ⟨vs, h1, VRs_pure cs vs hp h2⟩
  | .nilp, c, _, h => by simpa [VR] using h
  | .ptr id off, c, hp, h => by simp [AV.pure] at hp
  | .vptr cs off, c, hp, h => by
    simp only [AV.pure] at hp
    simp only [VR] at h ⊢; obtain ⟨b, o, obj, vs, h1, h2, h3, h4⟩ := h
    exact ⟨b, o, obj, vs, h1, h2, VRs_pure cs vs hp h3, h4⟩
  | .nils, c, _, h => by simpa [VR] using h
  | .emp, c, _, h => by simpa [VR] using h
  | .lit sz es, c, hp, h => by
    simp only [AV.pure] at hp
    simp only [VR] at h ⊢
    rcases h with h | ⟨b, o, obj, cap, vs, h1, h2, h3, h4, h5⟩
    · exact .inl h
    · exact .inr ⟨b, o, obj, cap, vs, h1, h2, h3, VRs_pure es vs hp h4, h5⟩
  | .slice id off len sz, c, hp, h => by simp [AV.pure] at hp
  | .nilmap, c, _, h => by simpa [VR] using h
  | .mapr id, c, hp, h => by simp [AV.pure] at hp
  | .nilfn, c, _, h => by simpa [VR] using h
  | .fn f cap, c, hp, h => by
    simp only [AV.pure] at hp
    simp only [VR] at h ⊢; obtain ⟨vs, h1, h2⟩ := h; exact ⟨vs, h1, VRs_pure cap vs hp h2⟩
  | .nilif, c, _, h => by simpa [VR] using h
  | .iface t v, c, hp, h => by
    simp only [AV.pure] at hp
    simp only [VR] at h ⊢; obtain ⟨v', h1, h2⟩ := h; exact ⟨v', h1, VR_pure v v' hp h2⟩
  | .undef, _, _, _ => by simp [VR]
theorem VRs_pure : ∀ (as : List AV) (cs : List Value), pureL as = true → VRs G I as cs → VRs G I' as cs
  | [], cs, _, h => by simpa [VRs] using h
  | a :: as, cs, hp, h => by
    simp only [pureL, Bool.and_eq_true] at hp
    simp only [VRs] at h ⊢; obtain ⟨v, r, h1, h2, h3⟩ := h
    exact ⟨v, r, h1, VR_pure a v hp.1 h2, VRs_pure as r hp.2 h3⟩
end
end

section
variable {G : Snap} {I : Inj}
theorem VRs_length : ∀ {as : List AV} {vs : List Value}, VRs G I as vs → vs.length = as.length
  | [], vs, h => by simp [VRs] at h; simp [h]
  | a :: as, vs, h => by
    simp only [VRs] at h; obtain ⟨v, r, rfl, _, h3⟩ := h; simp [VRs_length h3]
theorem VRs_get : ∀ {as : List AV} {vs : List Value}, VRs G I as vs → ∀ {i : Nat} {a : AV}, as[i]? = some a → ∃ v, vs[i]? = some v ∧ VR G I a v
  | [], vs, h, i, a, hi => by simp at hi
  | b :: as, vs, h, i, a, hi => by
    simp only [VRs] at h; obtain ⟨v, r, rfl, h2, h3⟩ := h
    cases i with
    | zero => simp at hi; subst hi; exact ⟨v, by simp, h2⟩
    | succ i => simp at hi ⊢; exact VRs_get h3 hi
theorem VRs_append : ∀ {as bs : List AV} {vs ws : List Value}, VRs G I as vs → VRs G I bs ws → VRs G I (as ++ bs) (vs ++ ws)
  | [], bs, vs, ws, h, h' => by simp [VRs] at h; subst h; simpa using h'
  | a :: as, bs, vs, ws, h, h' => by
    simp only [VRs] at h; obtain ⟨v, r, rfl, h2, h3⟩ := h
    simp only [List.cons_append, VRs]; exact ⟨v, _, rfl, h2, VRs_append h3 h'⟩
theorem VRs_of_get : ∀ {as : List AV} {vs : List Value}, vs.length = as.length → (∀ (i : Nat) (a : AV), as[i]? = some a → ∃ v, vs[i]? = some v ∧ VR G I a v) → VRs G I as vs
  | [], vs, hl, _ => by simp [VRs]; exact List.eq_nil_of_length_eq_zero hl
  | a :: as, [], hl, _ => by simp at hl
  | a :: as, v :: vs, hl, h => by
    simp only [VRs]
    obtain ⟨v', hv', hr⟩ := h 0 a (by simp)
    simp at hv'; subst hv'
    exact ⟨v, vs, rfl, hr, VRs_of_get (by simpa using hl) fun i b hi => by simpa using h (i + 1) b (by simpa using hi)⟩
theorem VRs_take {as : List AV} {vs : List Value} (h : VRs G I as vs) (n : Nat) : VRs G I (as.take n) (vs.take n) := by
  have hl := VRs_length h
  refine VRs_of_get (by simp [hl]) fun i a hi => ?_
  rw [List.getElem?_take] at hi ⊢
  split at hi
  · rename_i hlt; simp [hlt]; exact VRs_get h hi
  · cases hi
theorem VRs_drop {as : List AV} {vs : List Value} (h : VRs G I as vs) (n : Nat) : VRs G I (as.drop n) (vs.drop n) := by
  have hl := VRs_length h
  refine VRs_of_get (by simp [hl]) fun i a hi => ?_
  rw [List.getElem?_drop] at hi ⊢
  exact VRs_get h hi

/-- A value that is one cell is related to values of one cell alone. -/
theorem VR_one {a : AV} {c : Value} (h : VR G I a c) (h1 : a.one = true) : c.cells = #[c] ∧ (∀ x, c ≠ .agg x) ∧ (∀ x, c ≠ .tuple x) := by
  cases a <;> simp only [AV.one, Bool.false_eq_true] at h1
  case bool => simp only [VR] at h; subst h; simp [Value.cells]
  case int => simp only [VR] at h; subst h; simp [Value.cells]
  case str => simp only [VR] at h; subst h; simp [Value.cells]
  case nilp => simp only [VR] at h; subst h; simp [Value.cells]
  case ptr => simp only [VR] at h; obtain ⟨_, _, _, _, rfl⟩ := h; simp [Value.cells]
  case vptr => simp only [VR] at h; obtain ⟨_, _, _, _, rfl, _⟩ := h; simp [Value.cells]
  case nils => simp only [VR] at h; subst h; simp [Value.cells]
  case emp => simp only [VR] at h; obtain ⟨_, rfl⟩ := h; simp [Value.cells]
  case lit => simp only [VR] at h; rcases h with ⟨_, _, _, rfl⟩ | ⟨_, _, _, _, _, rfl, _⟩ <;> simp [Value.cells]
  case slice => simp only [VR] at h; rcases h with ⟨_, _, rfl⟩ | ⟨_, _, _, _, _, rfl, _⟩ <;> simp [Value.cells]
  case nilmap => simp only [VR] at h; subst h; simp [Value.cells]
  case mapr => simp only [VR] at h; obtain ⟨_, _, _, _, rfl⟩ := h; simp [Value.cells]
  case nilfn => simp only [VR] at h; subst h; simp [Value.cells]
  case fn => simp only [VR] at h; obtain ⟨_, rfl, _⟩ := h; simp [Value.cells]
  case nilif => simp only [VR] at h; subst h; simp [Value.cells]
  case iface => simp only [VR] at h; obtain ⟨_, rfl, _⟩ := h; simp [Value.cells]

/-- The cells of related values are related. -/
theorem VR_cells' {a : AV} {c : Value} (h : VR G I a c) (ht : (∃ cs, a = .agg cs) ∨ a.one = true) : VRs G I a.cells c.cells.toList := by
  rcases ht with ⟨cs, rfl⟩ | h1
  · simp only [VR] at h; obtain ⟨vs, rfl, h2⟩ := h; simpa [AV.cells, Value.cells] using h2
  · have hc := (VR_one h h1).1
    have : a.cells = [a] := by cases a <;> simp_all [AV.cells, AV.one]
    rw [this, hc]; simp [VRs]; exact h
end

section
variable {G : Snap} {I : Inj}
theorem VR_cells {a : AV} {c : Value} (h : VR G I a c) (ht : a.val = true) : VRs G I a.cells c.cells.toList := by
  refine VR_cells' h ?_
  cases a <;> simp_all [AV.val, AV.one]
theorem val_cells {a : AV} (h : a.val = true) : a.cells.all AV.one = true := by
  cases a <;> simp_all [AV.val, AV.one, AV.cells]
end

/-- What a block holds. -/
def BR (G : Snap) (I : Inj) : Blk → Obj → Nat → Nat → Prop
  | .cells cs, obj, base, ext => ∃ c e, obj = .cells c e (0, 0) ∧ cs.length ≤ ext ∧ base + ext ≤ c.size ∧
      ∀ j a, cs[j]? = some a → a.one = true ∧ ∃ v, c[base + j]? = some v ∧ VR G I a v
  | .map es, obj, _, _ => ∃ mes clock, obj = .map mes clock ∧ VRs G I (es.map (·.1)) (mes.toList.map (·.key)) ∧ VRs G I (es.map (·.2)) (mes.toList.map (·.val))

theorem BR_mono {G G' : Snap} {I I' : Inj} (hG : G.le G') (hI : I.le I') {k : Blk} {o : Obj} {b e : Nat} (h : BR G I k o b e) : BR G' I' k o b e := by
  cases k with
  | cells cs =>
    obtain ⟨c, el, h1, h2, h3, h4⟩ := h
    exact ⟨c, el, h1, h2, h3, fun j a hj => ⟨(h4 j a hj).1, let ⟨v, hv, hr⟩ := (h4 j a hj).2; ⟨v, hv, VR_mono hG hI a v hr⟩⟩⟩
  | map es =>
    obtain ⟨mes, cl, h1, h2, h3⟩ := h
    exact ⟨mes, cl, h1, VRs_mono hG hI _ _ h2, VRs_mono hG hI _ _ h3⟩

structure St (G : Snap) (L : Lk) (I : Inj) (h : Heap) (w : World) : Prop where
  g : ∀ b o, G b = some o → w.heap[b]? = some o
  l : ∀ b o, L b = some o → w.heap[b]? = some o
  dis : ∀ b, G b = none ∨ L b = none
  own : ∀ id k, h.at id = some k → (k = .cells [] ∧ I id = none) ∨ ∃ b base ext o, I id = some (b, base, ext) ∧ G b = none ∧ L b = none ∧ w.heap[b]? = some o ∧ BR G I k o base ext
  inj : ∀ i j ki kj b x x', h.at i = some ki → h.at j = some kj → I i = some (b, x) → I j = some (b, x') → i = j
  out : outs w = L.o

end Go.AM

namespace Go.AM

/-- Operands. -/
inductive RO where
  | t (n : Nat) | c (v : AV)
  deriving Inhabited

def RO.ev (env : List AV) : RO → AV
  | .t n => env.getD n .undef
  | .c v => v

/-- What is compared: integers, bools, strings, aggregates of so many integers. -/
inductive EqK where
  | i | b | s | g (n : Nat)
  deriving Inhabited

inductive ROp where
  | mv (x : RO) | pick (c a b : RO)
  | alloc (z : List AV) | box (x : RO)
  | build (z : List AV) (ps : List (Nat × Nat × RO))
  | bslice (sz len : Nat) (z : List AV) (ps : List (Nat × RO))
  | load (ag : Option Nat) (a : RO) | store (n : Nat) (a x : RO)
  | faddr (off : Nat) (a : RO) | fld (ag : Option Nat) (off : Nat) (x : RO)
  | iaS (sz : Nat) (x i : RO) | iaA (len sz : Nat) (x i : RO)
  | ixA (len sz : Nat) (ag : Option Nat) (x i : RO) | ixS (x i : RO)
  | bin (op : BinOp) (x y : RO) | eq (neg : Bool) (ag : EqK) (x y : RO) | un (op : UnOp) (x : RO)
  | conv (k : IntKind) (x : RO)
  | slc (sz : Nat) (x : RO) (lo hi : Option RO) | slcS (x : RO) (lo hi : Option RO) | slcA (n sz : Nat) (x : RO)
  | isnil (k : Nat) (neg : Bool) (x : RO) | clr (sz : Nat) (z : List AV) (x : RO)
  | nilck (x : RO) | ext (x : RO) (i : Nat)
  | mkfn (f : Nat) (caps : List RO)
  | len (k : Nat) (x : RO) | app (sz bytes : Nat) (s x : RO)
  | mm (mx : Bool) (x y : RO)
  | mkslice (sz bytes : Nat) (z : List AV) (l c : RO)
  | mkmap | look (ag : EqK) (z : AV) (ok : Bool) (m k : RO) | mupd (ag : EqK) (m k v : RO)
  | mkif (t : Nat) (x : RO) | tassert (t : Nat) (z : AV) (ok : Bool) (x : RO)
  | call (f : RO) (args : List RO)
  | panic (x : RO)
  deriving Inhabited

structure ROper where
  dst : Option Nat
  guard : Option (Nat × Bool)
  op : ROp
  deriving Inhabited

inductive RCode where
  | skip | reg (draw : Bool) (bef : List Nat) (ops : List ROper)
  | seq (a b : RCode) | cond (c : RO) (a b : RCode) | block (id : Nat) (b : RCode) | loop (b : RCode)
  | exit (id : Nat) | ret
  deriving Inhabited

inductive RRes where
  | t (n : Nat) | cell (n : Nat) (ag : Option Nat)
  deriving Inhabited

structure RFunc where
  ntmps : Nat
  res : List RRes
  body : RCode
  deriving Inhabited

/-! Values: equality of keys and operands. -/

/-- Lists of integers of the same kinds: are they the same? -/
def eqInts : List AV → List AV → Option Bool
  | [], [] => some true
  | .int k a :: xs, .int k' b :: ys => if k = k' then (eqInts xs ys).map fun r => (a == b) && r else none
  | _, _ => none

/-- Equality at a kind of type. -/
def AV.eqv (ag : EqK) (a b : AV) : Option Bool :=
  match ag with
  | .b => match a, b with
    | .bool a, .bool b => some (a == b)
    | _, _ => none
  | .i => match a, b with
    | .int j a, .int k b => if j = k then some (a == b) else none
    | _, _ => none
  | .s => match a, b with
    | .str a, .str b => some (a == b)
    | _, _ => none
  | .g n => match a, b with
    | .agg as, .agg bs => if as.length = n then eqInts as bs else none
    | _, _ => none

def AV.isI : AV → Bool
  | .int _ _ => true
  | _ => false

/-- A key that may be hashed. -/
def keyB : EqK → AV → Bool
  | .b, .bool _ => true
  | .i, .int _ _ => true
  | .s, .str _ => true
  | .g m, .agg as => as.length == m && as.all AV.isI
  | _, _ => false

abbrev Upd := List (Nat × Option Blk)
abbrev Res := Option (Bool × AV × Upd)

def Heap.set (h : Heap) (i : Nat) (k : Option Blk) : Heap :=
  if i < h.length then List.set h i k else h ++ List.replicate (i - h.length) none ++ [k]
def Heap.upd (h : Heap) : Upd → Heap
  | [] => h
  | (i, k) :: u => (h.set i k).upd u

def okv (v : AV) : Res := some (true, v, [])
def oki (c : Bool) (v : AV) : Res := some (c, v, [])

/-- A part of cells as a value. -/
def part (ag : Option Nat) (cs : List AV) (off : Nat) : Option AV :=
  match ag with
  | some n => if off + n ≤ cs.length then some (.agg ((cs.drop off).take n)) else none
  | none => cs[off]?

def overwrite (cs : List AV) (off : Nat) (vs : List AV) : List AV := cs.take off ++ vs ++ cs.drop (off + vs.length)

def fillA (env : List AV) : List AV → List (Nat × Nat × RO) → Option (Bool × List AV)
  | cs, [] => some (true, cs)
  | cs, (off, size, x) :: ps =>
    let v := x.ev env
    if v.cells.length = size ∧ off + size ≤ cs.length then
      match fillA env (overwrite cs off v.cells) ps with
      | some (b, r) => some (v.val && b, r)
      | none => none
    else none

def findKey (ag : EqK) : List (AV × AV) → AV → Option (Option (Nat × AV))
  | [], _ => some none
  | (k, v) :: es, x => match AV.eqv ag x k with
    | some true => some (some (0, v))
    | some false => match findKey ag es x with
      | some (some (i, v)) => some (some (i + 1, v))
      | some none => some none
      | none => none
    | none => none

def binA (op : BinOp) (x y : AV) : Res :=
  match x, y with
  | .int k a, .int k' b =>
    match op with
    | .shl => if k'.signed = false ∨ 0 ≤ b then oki (decide (0 ≤ b)) (.int k (k.wrap (a * 2 ^ (min b.toNat k.bits)))) else none
    | .shr => oki (decide (0 ≤ b)) (.int k (a.fdiv (2 ^ (min b.toNat k.bits))))
    | _ =>
    if k = k' then
      match op with
      | .add => okv (.int k (k.wrap (a + b)))
      | .sub => okv (.int k (k.wrap (a - b)))
      | .mul => okv (.int k (k.wrap (a * b)))
      | .quo => oki (decide (b ≠ 0)) (.int k (k.wrap (a.tdiv b)))
      | .rem => oki (decide (b ≠ 0)) (.int k (a.tmod b))
      | .and => okv (.int k (k.wrap ((BitVec.ofInt k.bits a &&& BitVec.ofInt k.bits b).toNat)))
      | .or => okv (.int k (k.wrap ((BitVec.ofInt k.bits a ||| BitVec.ofInt k.bits b).toNat)))
      | .xor => okv (.int k (k.wrap ((BitVec.ofInt k.bits a ^^^ BitVec.ofInt k.bits b).toNat)))
      | .andNot => okv (.int k (k.wrap ((BitVec.ofInt k.bits a &&& ~~~ BitVec.ofInt k.bits b).toNat)))
      | .eql => okv (.bool (a == b))
      | .neq => okv (.bool (a != b))
      | .lss => okv (.bool (decide (a < b)))
      | .leq => okv (.bool (decide (a ≤ b)))
      | .gtr => okv (.bool (decide (a > b)))
      | .geq => okv (.bool (decide (a ≥ b)))
      | _ => none
    else none
  | _, _ => none

def sliceCells (h : Heap) (sz : Nat) : AV → Option (Nat × List AV)
  | .nils => some (0, [])
  | .emp => some (0, [])
  | .lit sz' es => if sz' = sz then some (es.length, es.flatMap AV.cells) else none
  | .slice id off len sz' =>
    if sz' = sz then
      match h.at id with
      | some (.cells cs) => if off + len * sz ≤ cs.length then some (len, (cs.drop off).take (len * sz)) else none
      | _ => none
    else none
  | _ => none

/-- One operation: a condition, the value, what becomes of blocks; n: a block's number that is free. -/
def ROp.run (env : List AV) (h : Heap) (n : Nat) : ROp → Res
  | .mv x => okv (x.ev env)
  | .pick c a b => match c.ev env with
    | .bool t => match a.ev env, b.ev env with
      | .bool p, .bool q => okv (.bool (bif t then p else q))
      | p, q => okv (bif t then p else q)
    | _ => none
  | .alloc z => some (z.all AV.one, .ptr n 0, [(n, some (.cells z))])
  | .box x => let v := x.ev env; some (v.val, .ptr n 0, [(n, some (.cells v.cells))])
  | .build z ps => match fillA env z ps with
    | some (b, cs) => oki b (.agg cs)
    | none => none
  | .bslice sz ln z ps => match fillA env ((List.replicate ln z).flatten) (ps.map fun (i, x) => (i * sz, sz, x)) with
    | some (b, cs) => some (b && z.all AV.one, .slice n 0 ln sz, [(n, some (.cells cs))])
    | none => none
  | .load ag a => match a.ev env with
    | .ptr id off => match h.at id with
      | some (.cells cs) => match part ag cs off with | some v => okv v | none => none
      | _ => none
    | .vptr cs off => match part ag cs off with | some v => okv v | none => none
    | _ => none
  | .store n a x => match a.ev env with
    | .ptr id off => match h.at id with
      | some (.cells cs) =>
        let v := x.ev env
        if v.cells.length = n ∧ off + n ≤ cs.length then some (v.val, .tup [], [(id, some (.cells (overwrite cs off v.cells)))]) else none
      | _ => none
    | _ => none
  | .faddr off a => match a.ev env with
    | .ptr id o => okv (.ptr id (o + off))
    | .vptr cs o => okv (.vptr cs (o + off))
    | _ => none
  | .fld ag off x => match x.ev env with
    | .agg cs => match part ag cs off with | some v => okv v | none => none
    | _ => none
  | .iaS sz x i => match x.ev env, i.ev env with
    | .lit sz' es, .int _ k => if sz' = sz then oki (decide (0 ≤ k ∧ k < es.length)) (.vptr (es.getD k.toNat .undef).cells 0) else none
    | .slice id off ln sz', .int _ k => if sz' = sz then oki (decide (0 ≤ k ∧ k < ln)) (.ptr id (off + k.toNat * sz)) else none
    | _, _ => none
  | .iaA ln sz x i => match x.ev env, i.ev env with
    | .ptr id off, .int _ k => oki (decide (0 ≤ k ∧ k < ln)) (.ptr id (off + k.toNat * sz))
    | .vptr cs off, .int _ k => oki (decide (0 ≤ k ∧ k < ln)) (.vptr cs (off + k.toNat * sz))
    | _, _ => none
  | .ixA ln sz ag x i => match x.ev env, i.ev env with
    | .agg cs, .int _ k => match part ag cs (k.toNat * sz) with
      | some v => oki (decide (0 ≤ k ∧ k < ln)) v
      | none => none
    | _, _ => none
  | .ixS x i => match x.ev env, i.ev env with
    | .str s, .int _ k => oki (decide (0 ≤ k ∧ k < s.size)) (.int .u8 ((s.data.toList.getD k.toNat 0).toNat))
    | _, _ => none
  | .bin op x y => binA op (x.ev env) (y.ev env)
  | .eq neg ag x y => match AV.eqv ag (x.ev env) (y.ev env) with
    | some b => okv (.bool (if neg then !b else b))
    | none => none
  | .un op x => match op, x.ev env with
    | .neg, .int k a => okv (.int k (k.wrap (0 - a)))
    | .not, .bool b => okv (.bool (!b))
    | _, _ => none
  | .conv k x => match x.ev env with
    | .int _ a => okv (.int k (k.wrap a))
    | _ => none
  | .slc sz x lo hi => match x.ev env with
    | .lit sz' es => if sz' = sz then
        match (lo.map (RO.ev env)).getD (.int .i64 0), (hi.map (RO.ev env)).getD (.int .i64 es.length) with
        | .int _ l, .int _ g => oki (decide (0 ≤ l ∧ l ≤ g ∧ g ≤ es.length)) (.lit sz ((es.drop l.toNat).take (g.toNat - l.toNat)))
        | _, _ => none
      else none
    | .slice id off ln sz' => if sz' = sz then
        match (lo.map (RO.ev env)).getD (.int .i64 0), (hi.map (RO.ev env)).getD (.int .i64 ln) with
        | .int _ l, .int _ g => oki (decide (0 ≤ l ∧ l ≤ g ∧ g ≤ ln)) (.slice id (off + l.toNat * sz) (g.toNat - l.toNat) sz)
        | _, _ => none
      else none
    | .nils => match (lo.map (RO.ev env)).getD (.int .i64 0), (hi.map (RO.ev env)).getD (.int .i64 0) with
      | .int _ l, .int _ g => oki (decide (l = 0 ∧ g = 0)) .nils
      | _, _ => none
    | _ => none
  | .slcS x lo hi => match x.ev env with
    | .str s => match (lo.map (RO.ev env)).getD (.int .i64 0), (hi.map (RO.ev env)).getD (.int .i64 s.size) with
      | .int _ l, .int _ g => oki (decide (0 ≤ l ∧ l ≤ g ∧ g ≤ s.size)) (.str (s.extract l.toNat g.toNat))
      | _, _ => none
    | _ => none
  | .slcA m sz x => match x.ev env with
    | .ptr id off => match h.at id with
      | some (.cells cs) => oki (decide (off + m * sz ≤ cs.length)) (.slice id off m sz)
      | _ => none
    | _ => none
  | .isnil k neg x => match k, x.ev env with
    | 1, .nils => okv (.bool (!neg))
    | 1, .lit _ (_ :: _) => okv (.bool neg)
    | 1, .slice _ _ (_ + 1) _ => okv (.bool neg)
    | 2, .nilmap => okv (.bool (!neg))
    | 2, .mapr _ => okv (.bool neg)
    | 3, .nilp => okv (.bool (!neg))
    | 3, .ptr _ _ => okv (.bool neg)
    | 3, .vptr _ _ => okv (.bool neg)
    | 4, .nilif => okv (.bool (!neg))
    | 4, .iface _ _ => okv (.bool neg)
    | 5, .nilfn => okv (.bool (!neg))
    | 5, .fn _ _ => okv (.bool neg)
    | _, _ => none
  | .clr sz z x => match x.ev env with
    | .nils => okv (.tup [])
    | .emp => okv (.tup [])
    | .slice id off ln sz' => if sz' = sz then
        match h.at id with
        | some (.cells cs) => if off + ln * sz ≤ cs.length ∧ z.length = sz then
            some (z.all AV.one, .tup [], [(id, some (.cells (overwrite cs off ((List.replicate ln z).flatten))))]) else none
        | _ => none
      else none
    | _ => none
  | .nilck x => match x.ev env with
    | .ptr id off => okv (.ptr id off)
    | .vptr cs off => okv (.vptr cs off)
    | .fn f c => okv (.fn f c)
    | _ => none
  | .ext x i => match x.ev env with
    | .tup vs => match vs[i]? with | some v => okv v | none => none
    | _ => none
  | .mkfn f caps => okv (.fn f (caps.map (RO.ev env)))
  | .len k x => match k, x.ev env with
    | 0, .str s => okv (.int .i64 s.size)
    | 1, .nils => okv (.int .i64 0)
    | 1, .emp => okv (.int .i64 0)
    | 1, .lit _ es => okv (.int .i64 es.length)
    | 1, .slice _ _ ln _ => okv (.int .i64 ln)
    | 2, .nilmap => okv (.int .i64 0)
    | 2, .mapr id => match h.at id with
      | some (.map es) => okv (.int .i64 es.length)
      | _ => none
    | _, _ => none
  | .app sz bytes s x =>
    match sliceCells h sz (x.ev env) with
    | none => none
    | some (m, news) =>
      match s.ev env with
      | .nils => if m = 0 then okv .nils else some (decide (m * bytes ≤ 140737488355328), .slice n 0 m sz, [(n, some (.cells news))])
      | .emp => if m = 0 then okv .emp else some (decide (m * bytes ≤ 140737488355328), .slice n 0 m sz, [(n, some (.cells news))])
      | .slice id off ln sz' =>
        if sz' = sz then
          match h.at id with
          | some (.cells cs) =>
            if off + ln * sz ≤ cs.length then
              some (decide ((ln + m) * bytes ≤ 140737488355328), .slice n 0 (ln + m) sz, [(id, none), (n, some (.cells ((cs.drop off).take (ln * sz) ++ news)))])
            else none
          | _ => none
        else none
      | _ => none
  | .mm mx x y => match x.ev env, y.ev env with
    | .int k a, .int k' b => if k = k' then okv (.int k (if mx then (if b > a then b else a) else (if b < a then b else a))) else none
    | _, _ => none
  | .mkslice sz bytes z l c => match l.ev env, c.ev env with
    | .int .i64 a, .int .i64 b => if a = b then
        some (decide (0 ≤ a ∧ a * bytes ≤ 140737488355328) && z.all AV.one, .slice n 0 a.toNat sz, [(n, some (.cells ((List.replicate a.toNat z).flatten)))])
      else none
    | _, _ => none
  | .mkmap => some (true, .mapr n, [(n, some (.map []))])
  | .look ag z ok m k =>
    let es : Option (List (AV × AV)) := match m.ev env with
      | .nilmap => some []
      | .mapr id => match h.at id with
        | some (.map es) => some es
        | _ => none
      | _ => none
    match es with
    | some es => match findKey ag es (k.ev env) with
      | some (some (_, v)) => oki (keyB ag (k.ev env)) (if ok then .tup [v, .bool true] else v)
      | some none => oki (keyB ag (k.ev env)) (if ok then .tup [z, .bool false] else z)
      | none => none
    | none => none
  | .mupd ag m k v => match m.ev env with
    | .mapr id => match h.at id with
      | some (.map es) => match findKey ag es (k.ev env) with
        | some (some (i, _)) => some (keyB ag (k.ev env) && (v.ev env).val, .tup [], [(id, some (.map (es.set i (((es.map (·.1)).getD i .undef), v.ev env))))])
        | some none => some (keyB ag (k.ev env) && (v.ev env).val, .tup [], [(id, some (.map (es ++ [(k.ev env, v.ev env)])))])
        | none => none
      | _ => none
    | _ => none
  | .mkif t x => okv (.iface t (x.ev env))
  | .tassert t z ok x => match x.ev env with
    | .iface u v => if u = t then okv (if ok then .tup [v, .bool true] else v) else if ok then okv (.tup [z, .bool false]) else none
    | .nilif => if ok then okv (.tup [z, .bool false]) else none
    | _ => none
  | .call _ _ => none
  | .panic _ => none

end Go.AM

namespace Go.AM

def vOne : Value → Option AV
  | .bool b => some (.bool b)
  | .int k n => some (.int k n)
  | .string s => some (.str s)
  | .pointer none => some .nilp
  | .slice none 0 0 => some .nils
  | .map none => some .nilmap
  | .nilFunc => some .nilfn
  | .nilIface => some .nilif
  | _ => none

def vOnes : List Value → Option (List AV)
  | [] => some []
  | v :: vs => match vOne v, vOnes vs with
    | some a, some as => some (a :: as)
    | _, _ => none

def vOf : Value → Option AV
  | .agg cs => (vOnes cs.toList).map .agg
  | v => vOne v

def cRO : Operand → Option RO
  | .tmp t => some (.t t)
  | .const v => (vOf v).map .c
  | .func f => some (.c (.fn f []))
  | .global _ => none

def cROs : List Operand → Option (List RO)
  | [] => some []
  | x :: xs => match cRO x, cROs xs with
    | some a, some as => some (a :: as)
    | _, _ => none

def cROo : Option Operand → Option (Option RO)
  | none => some none
  | some x => (cRO x).map some

section
variable (P : Program)

def szP (t : TypeId) : Option Nat := (P.info? t).map (·.size)
def bytesP (t : TypeId) : Option Nat := (P.info? t).map (·.bytes)
def zeroP (t : TypeId) : Option (List AV) := ((P.info? t).bind (·.zero)).bind fun z => vOnes z.cells.toList
def zeroV (t : TypeId) : Option AV := ((P.info? t).bind (·.zero)).bind vOf

def agP (t : TypeId) : Option (Option Nat) :=
  match P.underlying t with
  | some (.struct _) => (szP P t).map some
  | some (.array _ _) => (szP P t).map some
  | some _ => some none
  | none => none

/-- Types whose values are compared cell by cell: integers, bools, strings; arrays and structs of integers. -/
def isInt (t : TypeId) : Bool :=
  match P.underlying t with
  | some (.int _) => true
  | _ => false
/-- Fields that lie one behind the other, from o on; where they end. -/
def contig : Nat → List Field → Option Nat
  | o, [] => some o
  | o, f :: fs => if f.offset = o then match szP P f.type with
    | some s => contig (o + s) fs
    | none => none
    else none
/-- struct or array, all of whose cells are integers, no field without a name. -/
def flatInts : Nat → TypeId → Bool
  | 0, _ => false
  | d + 1, t =>
    match P.underlying t, szP P t with
    | some (.int _), some n => n == 1
    | some (.struct fs), some n => !P.stoodInHeld t && fs.toList.all (fun f => f.name != "_" && flatInts d f.type) && contig P 0 fs.toList == some n
    | some (.array m e), some n => flatInts d e && (match szP P e with | some s => n == m * s | none => false)
    | _, _ => false
def eqK (t : TypeId) : Option EqK :=
  match P.underlying t with
  | some (.int _) => some .i
  | some .bool => some .b
  | some .string => some .s
  | some (.struct _) => if flatInts P 4 t then (szP P t).map .g else none
  | some (.array _ _) => if flatInts P 4 t then (szP P t).map .g else none
  | _ => none

/-- The literal nil, of which kind. -/
def nilC : Operand → Option Nat
  | .const (.slice none 0 0) => some 1
  | .const (.map none) => some 2
  | .const (.pointer none) => some 3
  | .const .nilIface => some 4
  | .const .nilFunc => some 5
  | _ => none
def nilK (t : TypeId) : Option Nat :=
  match P.underlying t with
  | some (.slice _) => some 1
  | some (.map _ _) => some 2
  | some (.pointer _) => some 3
  | some (.interface _) => some 4
  | some (.func _ _ _) => some 5
  | _ => none
def cEq (neg : Bool) (t : TypeId) (x y : Operand) : Option ROp :=
  match nilC y with
  | some k => match cRO x with | some x => if nilK P t = some k then some (.isnil k neg x) else none | none => none
  | none => match eqK P t, cRO x, cRO y with | some k, some x, some y => some (.eq neg k x y) | _, _, _ => none

def cParts (place : Nat → Option (Nat × Nat)) : List (Nat × Operand) → Option (List (Nat × Nat × RO))
  | [] => some []
  | (i, x) :: ps => match place i, cRO x, cParts place ps with
    | some (off, size), some r, some rs => some ((off, size, r) :: rs)
    | _, _, _ => none
def cParts2 : List (Nat × Operand) → Option (List (Nat × RO))
  | [] => some []
  | (i, x) :: ps => match cRO x, cParts2 ps with
    | some r, some rs => some ((i, r) :: rs)
    | _, _ => none

def cOp (o : Op) : Option ROp :=
  match o with
  | .move x => (cRO x).map .mv
  | .assign x => (cRO x).map .mv
  | .pick c a b => match cRO c, cRO a, cRO b with | some c, some a, some b => some (.pick c a b) | _, _, _ => none
  | .alloc e => (zeroP P e).map .alloc
  | .box _ x => (cRO x).map .box
  | .build t ps =>
    match zeroP P t, P.underlying t with
    | some z, some (.struct fs) => if !(fs.toList.all fun f => (szP P f.type).isSome) then none else (cParts (fun i => match fs[i]? with | some f => (szP P f.type).map fun s => (f.offset, s) | none => none) ps.toList).map (.build z)
    | some z, some (.array _ e) => match szP P e with
      | some s => (cParts (fun i => some (i * s, s)) ps.toList).map (.build z)
      | none => none
    | _, _ => none
  | .buildSlice t len ps =>
    match P.underlying t with
    | some (.slice e) => match szP P e, zeroP P e, cParts2 ps.toList with
      | some s, some z, some rs => if z.length = s ∧ 0 < s ∧ len * s ≤ 2 ^ 24 then some (.bslice s len z rs) else none
      | _, _, _ => none
    | _ => none
  | .load t a => match agP P t, cRO a with | some ag, some a => some (.load ag a) | _, _ => none
  | .store t a x => match szP P t, cRO a, cRO x with | some n, some a, some x => some (.store n a x) | _, _, _ => none
  | .fieldAddr s x f => match P.underlying s, cRO x with
    | some (.struct fs), some x => match fs[f]? with
      | some fd => match szP P fd.type with
        | some n => if n = 0 then none else some (.faddr fd.offset x)
        | none => none
      | none => none
    | _, _ => none
  | .field t x f => match P.underlying t, cRO x with
    | some (.struct fs), some x => match fs[f]? with
      | some fd => match agP P fd.type with
        | some ag => some (.fld ag fd.offset x)
        | none => none
      | none => none
    | _, _ => none
  | .indexAddr t x i => match P.underlying t, cRO x, cRO i with
    | some (.array n e), some x, some i => (szP P e).map fun s => .iaA n s x i
    | some (.slice e), some x, some i => (szP P e).map fun s => .iaS s x i
    | _, _, _ => none
  | .index t x i => match P.underlying t, cRO x, cRO i with
    | some (.array n e), some x, some i => match szP P e, agP P e with
      | some s, some ag => some (.ixA n s ag x i)
      | _, _ => none
    | some .string, some x, some i => some (.ixS x i)
    | _, _, _ => none
  | .binOp op t x y _ => match op with
    | .eql => cEq P false t x y
    | .neq => cEq P true t x y
    | op => match cRO x, cRO y with | some x, some y => some (.bin op x y) | _, _ => none
  | .unOp op _ x => (cRO x).map (.un op)
  | .convert s d x => match P.underlying s, P.underlying d, cRO x with
    | some _, some (.int k), some x => some (.conv k x)
    | _, _, _ => none
  | .slice t x lo hi mx => match cRO x, cROo lo, cROo hi, cROo mx with
    | some x, some lo, some hi, some mx => match P.underlying t with
      | some (.slice e) => match mx, szP P e with
        | none, some s => some (.slc s x lo hi)
        | _, _ => none
      | some .string => match mx with
        | none => some (.slcS x lo hi)
        | some _ => none
      | some (.array n e) => match lo, hi, mx, szP P e with
        | none, none, none, some s => some (.slcA n s x)
        | _, _, _, _ => none
      | _ => none
    | _, _, _, _ => none
  | .nilCheck x => (cRO x).map .nilck
  | .extract x i => (cRO x).map fun x => .ext x i
  | .makeFunc (.func f) first caps => if first.size = 0 then (cROs caps.toList).map (.mkfn f) else none
  | .makeSlice t l c => match P.underlying t, cRO l, cRO c with
    | some (.slice e), some l, some c => match szP P e, bytesP P e, zeroP P e with
      | some s, some b, some z => if z.length = s ∧ 0 < s ∧ 0 < b then some (.mkslice s b z l c) else none
      | _, _, _ => none
    | _, _, _ => none
  | .makeMap _ none => some .mkmap
  | .lookup t m k ok => match P.underlying t, cRO m, cRO k with
    | some (.map kt e), some m, some k => match zeroV P e with
      | some z => (eqK P kt).map fun ag => .look ag z ok m k
      | none => none
    | _, _, _ => none
  | .mapUpdate t m k v => match P.underlying t, cRO m, cRO k, cRO v with
    | some (.map kt _), some m, some k, some v => (eqK P kt).map fun ag => .mupd ag m k v
    | _, _, _, _ => none
  | .makeInterface t x => match P.underlying t, cRO x with
    | some (.interface _), _ => none
    | some _, some x => some (.mkif t x)
    | _, _ => none
  | .typeAssert x _ t ok => match P.underlying t, cRO x with
    | some (.interface _), _ => none
    | some _, some x => (zeroV P t).map fun z => .tassert t z ok x
    | _, _ => none
  | .panic x => (cRO x).map .panic
  | .call c =>
    match c.callee with
    | .value f => match cRO f, cROs c.args.toList with
      | some f, some as => some (.call f as)
      | _, _ => none
    | .builtin .len => match c.args.toList, c.argTypes.toList with
      | [x], [t] => match P.underlying t, cRO x with
        | some .string, some x => some (.len 0 x)
        | some (.slice _), some x => some (.len 1 x)
        | some (.map _ _), some x => some (.len 2 x)
        | some (.array n _), some _ => some (.mv (.c (.int .i64 n)))
        | _, _ => none
      | _, _ => none
    | .builtin .append => match c.args.toList, c.argTypes.toList with
      | [s, x], [t, u] => match P.underlying t, P.underlying u, cRO s, cRO x with
        | some (.slice e), some (.slice _), some s, some x => match szP P e, bytesP P e, zeroP P e with
          | some n, some b, some z => if z.length = n ∧ 0 < n ∧ 0 < b then some (.app n b s x) else none
          | _, _, _ => none
        | _, _, _, _ => none
      | _, _ => none
    | .builtin .clear => match c.args.toList, c.argTypes.toList with
      | [x], [t] => match P.underlying t, cRO x with
        | some (.slice e), some x => match szP P e, zeroP P e with
          | some s, some z => if z.length = s ∧ 0 < s then some (.clr s z x) else none
          | _, _ => none
        | _, _ => none
      | _, _ => none
    | .builtin .min => match c.args.toList with
      | [x, y] => match cRO x, cRO y with | some x, some y => some (.mm false x y) | _, _ => none
      | _ => none
    | .builtin .max => match c.args.toList with
      | [x, y] => match cRO x, cRO y with | some x, some y => some (.mm true x y) | _, _ => none
      | _ => none
    | _ => none
  | _ => none

def cOper (ops : Array Oper) (o : Oper) : Option ROper :=
  match cOp P o.op with
  | none => none
  | some r => match o.guard with
    | none => some { dst := o.dst, guard := none, op := r }
    | some (j, want) => match (ops[j]?).bind (·.dst) with
      | some d => some { dst := o.dst, guard := some (d, want), op := r }
      | none => none

def cOpers (ops : Array Oper) : List Oper → Option (List ROper)
  | [] => some []
  | o :: os => match cOper P ops o, cOpers ops os with
    | some r, some rs => some (r :: rs)
    | _, _ => none

def cCode : Code → Option RCode
  | .skip => some .skip
  | .region _ ops draw => (cOpers P ops ops.toList).map (.reg draw (if draw then (Region.before ops).toList else []))
  | .seq a b => match cCode a, cCode b with | some a, some b => some (.seq a b) | _, _ => none
  | .cond c a b => match cRO c, cCode a, cCode b with | some c, some a, some b => some (.cond c a b) | _, _, _ => none
  | .block id b => (cCode b).map (.block id)
  | .loop b => (cCode b).map .loop
  | .exit id => some (.exit id)
  | .ret => some .ret
  | _ => none

def cRes : List ResultVar → Option (List RRes)
  | [] => some []
  | .tmp t :: rs => (cRes rs).map (.t t :: ·)
  | .cell a t :: rs => match agP P t, cRes rs with
    | some ag, some r => some (.cell a ag :: r)
    | _, _ => none

def cFunc (f : Func) : Option RFunc :=
  match f.body, cRes P f.results.toList with
  | some b, some r => (cCode P b).map fun c => { ntmps := f.ntmps, res := r, body := c }
  | _, _ => none
end
end Go.AM

namespace Go.AM

section
variable {P : Program} {w : World}

theorem run_isAgg {t : TypeId} {d : TypeDesc} (h : P.underlying t = some d) :
    (isAgg t).run P w = .ok (match d with | .struct _ | .array _ _ => true | _ => false) w := by
  simp only [isAgg]
  cases d <;> simp [run_underlying h]

theorem run_sizeOf {t : TypeId} {n : Nat} (h : szP P t = some n) : (sizeOf t).run P w = .ok n w := by
  simp only [szP] at h
  cases hi : P.info? t with
  | none => simp [hi] at h
  | some i => simp [hi] at h; simp [sizeOf, typeInfo, hi, h]

theorem agP_agg {t : TypeId} {n : Nat} (h : agP P t = some (some n)) : (isAgg t).run P w = .ok true w ∧ (sizeOf t).run P w = .ok n w ∧ szP P t = some n := by
  unfold agP at h
  cases hu : P.underlying t with
  | none => simp [hu] at h
  | some d =>
    cases d <;> simp [hu] at h
    case struct => exact ⟨by simp [run_isAgg hu], run_sizeOf h, h⟩
    case array => exact ⟨by simp [run_isAgg hu], run_sizeOf h, h⟩

theorem agP_one {t : TypeId} (h : agP P t = some none) : (isAgg t).run P w = .ok false w := by
  unfold agP at h
  cases hu : P.underlying t with
  | none => simp [hu] at h
  | some d => cases d <;> simp [hu] at h <;> simp [run_isAgg hu]

def Readable (w : World) (b o : Nat) (vs : List Value) : Prop := ∀ j v, vs[j]? = some v → w.cell? ⟨b, o + j, none⟩ = some v

def CellsAt (w : World) (G : Snap) (I : Inj) (b o : Nat) (cs : List AV) : Prop := ∃ vs : List Value, VRs G I cs vs ∧ Readable w b o vs

theorem Readable.drop {b o : Nat} {vs : List Value} (h : Readable w b o vs) (n : Nat) : Readable w b (o + n) (vs.drop n) := by
  intro j v hj
  rw [List.getElem?_drop] at hj
  have := h _ _ hj
  rwa [Nat.add_assoc]

theorem Readable.take {b o : Nat} {vs : List Value} (h : Readable w b o vs) (n : Nat) : Readable w b o (vs.take n) := by
  intro j v hj
  rw [List.getElem?_take] at hj
  split at hj
  · exact h _ _ hj
  · cases hj

theorem run_loadVar_agg {t : TypeId} {n b o : Nat} {vs : List Value} (h : agP P t = some (some n)) (hl : vs.length = n) (hr : Readable w b o vs) :
    (loadVar t ⟨b, o, none⟩).run P w = .ok (.agg vs.toArray) w := by
  have h1 := (agP_agg (w := w) h).1
  have h2 := (agP_agg (w := w) h).2.1
  have h3 := run_loadCells_list (P := P) w ⟨b, o, none⟩ vs (fun j v hj => by rw [Addr.add_lit]; exact hr j v hj)
  rw [hl] at h3
  simp [loadVar, h1, h2, h3]

theorem run_loadVar_one {t : TypeId} {b o : Nat} {v : Value} (h : agP P t = some none) (hr : w.cell? ⟨b, o, none⟩ = some v) :
    (loadVar t ⟨b, o, none⟩).run P w = .ok v w := by
  have h1 := agP_one (w := w) h
  simp [loadVar, h1, load, Sem.run, hr]

variable {G : Snap} {L : Lk} {I : Inj} {h : Heap}

theorem load_part {t : TypeId} {ag : Option Nat} {b o off : Nat} {cs : List AV} {v : AV} (ht : agP P t = some ag) (hc : CellsAt w G I b o cs)
    (hp : part ag cs off = some v) : ∃ cv, (loadVar t ⟨b, o + off, none⟩).run P w = .ok cv w ∧ VR G I v cv := by
  obtain ⟨vs, hv, hr⟩ := hc
  have hl := VRs_length hv
  cases ag with
  | some n =>
    simp only [part] at hp
    split at hp
    · rename_i hle
      injection hp with hp; subst hp
      refine ⟨_, run_loadVar_agg (vs := (vs.drop off).take n) ht (by simp; omega) ((hr.drop off).take n), ?_⟩
      simp only [VR]
      exact ⟨_, rfl, VRs_take (VRs_drop hv off) n⟩
    · cases hp
  | none =>
    simp only [part] at hp
    obtain ⟨cv, h1, h2⟩ := VRs_get hv hp
    exact ⟨cv, run_loadVar_one ht (hr _ _ h1), h2⟩

theorem cell?_of_cells {b j : Nat} {c : Array Value} {e : TypeId} {fz : Nat × Nat} (hb : w.heap[b]? = some (.cells c e fz)) : w.cell? ⟨b, j, none⟩ = c[j]? :=
  cell_of_row w b j c e fz hb

theorem holdsAt_read {b o : Nat} {obj : Obj} {vs : List Value} (hb : w.heap[b]? = some obj) (h : holdsAt obj o vs) : Readable w b o vs := by
  obtain ⟨c, e, fz, rfl, _, h3⟩ := h
  intro j v hj
  rw [cell?_of_cells hb]
  exact h3 j v hj

theorem BR_cells {b base ext : Nat} {obj : Obj} {cs : List AV} (hb : w.heap[b]? = some obj) (h : BR G I (.cells cs) obj base ext) : CellsAt w G I b base cs := by
  obtain ⟨c, e, rfl, h2, h3, h4⟩ := h
  refine ⟨(c.toList.drop base).take cs.length, VRs_of_get ?_ ?_, ?_⟩
  · simp; omega
  · intro i a hi
    obtain ⟨v, hv, hr⟩ := (h4 i a hi).2
    refine ⟨v, ?_, hr⟩
    rw [List.getElem?_take, List.getElem?_drop]
    have : i < cs.length := (List.getElem?_eq_some_iff.1 hi).1
    simp [this, hv]
  · intro j v hj
    rw [List.getElem?_take] at hj
    split at hj
    · rw [List.getElem?_drop] at hj
      rw [cell?_of_cells hb]
      simpa using hj
    · cases hj

/-- A pointer to an own block. -/
theorem St.cellsAt (hs : St G L I h w) {id b base ext : Nat} {cs : List AV} (hi : I id = some (b, base, ext)) (ha : h.at id = some (.cells cs)) : CellsAt w G I b base cs := by
  rcases hs.own id _ ha with ⟨_, he⟩ | ⟨b', base', ext', o, h1, _, _, h2, h3⟩
  · rw [hi] at he; cases he
  · rw [hi] at h1; injection h1 with h1; injection h1 with h1 h1'; injection h1' with h1' h1''
    subst h1; subst h1'; subst h1''
    exact BR_cells h2 h3

/-- What `load` does. -/
theorem load_sound (hs : St G L I h w) {t : TypeId} {ag : Option Nat} {a : AV} {ca : Value} {v : AV} (ht : agP P t = some ag) (hva : VR G I a ca)
    (hrun : (match (generalizing := false) a with
      | .ptr id off => match h.at id with
        | some (.cells cs) => match part ag cs off with | some v => okv v | none => none
        | _ => none
      | .vptr cs off => match part ag cs off with | some v => okv v | none => none
      | _ => (none : Res)) = some (true, v, [])) :
    ∃ cv, (Instr.loadAt t ca).run P w = .ok cv w ∧ VR G I v cv := by
  cases a <;> simp at hrun
  case ptr id off =>
    simp only [VR] at hva
    obtain ⟨b, base, ext, hi, rfl⟩ := hva
    cases hat : h.at id with
    | none => simp [hat] at hrun
    | some k =>
      cases k with
      | map es => simp [hat] at hrun
      | cells cs =>
        simp only [hat] at hrun
        cases hp : part ag cs off with
        | none => simp [hp] at hrun
        | some v' =>
          simp [hp, okv] at hrun; subst hrun
          obtain ⟨cv, h1, h2⟩ := load_part ht (hs.cellsAt hi hat) hp
          exact ⟨cv, by simpa [Instr.loadAt, Instr.sureAddr] using h1, h2⟩
  case vptr cs off =>
    simp only [VR] at hva
    obtain ⟨b, o, obj, vs, rfl, hg, hv, hh⟩ := hva
    cases hp : part ag cs off with
    | none => simp [hp] at hrun
    | some v' =>
      simp [hp, okv] at hrun; subst hrun
      obtain ⟨cv, h1, h2⟩ := load_part ht ⟨vs, hv, holdsAt_read (hs.g _ _ hg) hh⟩ hp
      exact ⟨cv, by simpa [Instr.loadAt, Instr.sureAddr] using h1, h2⟩
end
end Go.AM

namespace Go.AM

theorem Heap.at_set (h : Heap) (i j : Nat) (k : Option Blk) : (h.set i k).at j = if j = i then k else h.at j := by
  unfold Heap.set Heap.at
  split
  · rename_i hlt
    by_cases hj : j = i
    · subst hj; simp [hlt]
    · have : ¬ i = j := fun e => hj e.symm
      simp [this, hj]
  · rename_i hge
    by_cases hj : j = i
    · subst hj
      have e : (List.length h + (j - List.length h)) = j := by omega
      rw [List.getElem?_append_right (by simp; omega)]
      simp [e]
    · simp only [hj, if_false]
      rcases Nat.lt_or_ge j h.length with hl | hl
      · rw [List.append_assoc, List.getElem?_append_left hl]
      · have h1 : h[j]? = none := by simp; exact hl
        rw [h1]
        rw [List.append_assoc, List.getElem?_append_right hl]
        rcases Nat.lt_or_ge (j - h.length) (i - h.length) with hl2 | hl2
        · rw [List.getElem?_append_left (by simpa using hl2)]
          simp [List.getElem?_replicate, hl2]
        · rw [List.getElem?_append_right (by simpa using hl2)]
          have : j - h.length - (i - h.length) ≠ 0 := by omega
          simp only [List.length_replicate]
          cases hx : (j - h.length - (i - h.length)) with
          | zero => exact absurd hx this
          | succ m => simp

theorem Heap.length_set (h : Heap) (i : Nat) (k : Option Blk) : (h.set i k).length = max h.length (i + 1) := by
  unfold Heap.set
  split
  · simp; omega
  · simp; omega

def Inj.put (I : Inj) (n : Nat) (x : Nat × Nat × Nat) : Inj := fun i => if i = n then some x else I i

theorem Inj.le_put {I : Inj} {n : Nat} {x : Nat × Nat × Nat} (hn : I n = none) : I.le (I.put n x) := by
  intro i y hi
  unfold Inj.put
  split
  · rename_i e; subst e; rw [hn] at hi; cases hi
  · exact hi

section
variable {P : Program} {w : World} {G : Snap} {L : Lk} {I : Inj} {h : Heap}

/-- A new block. -/
theorem St.alloc (hs : St G L I h w) {n : Nat} (hn : I n = none) (hf : h.at n = none) {k : Blk} {o : Obj} {ext : Nat} {w1 : World} (hw : w1.heap = w.heap)
    (hb : BR G I k o 0 ext) (ho : outs w1 = outs w := by rfl) : St G L (I.put n (w.heap.size, 0, ext)) (h.set n (some k)) (w1.alloc o) := by
  have old : ∀ (b : Nat) (x : Obj), w.heap[b]? = some x → (w1.alloc o).heap[b]? = some x := by
    intro b x hx
    have : b < w.heap.size := (Array.getElem?_eq_some_iff.1 hx).1
    simp [World.alloc, hw, Array.getElem?_push]
    rw [if_neg (by omega)]; exact hx
  have hle : I.le (I.put n (w.heap.size, 0, ext)) := Inj.le_put hn
  have fresh : ∀ (b : Nat) (x : Obj), w.heap[b]? = some x → b ≠ w.heap.size := by
    intro b x hx e
    have : b < w.heap.size := (Array.getElem?_eq_some_iff.1 hx).1
    omega
  constructor
  · exact fun b x hx => old b x (hs.g b x hx)
  · exact fun b x hx => old b x (hs.l b x hx)
  · exact hs.dis
  · intro id k' hk'
    rw [Heap.at_set] at hk'
    by_cases hid : id = n
    · subst hid
      simp at hk'; subst hk'
      refine .inr ⟨w.heap.size, 0, ext, o, by simp [Inj.put], ?_, ?_, ?_, BR_mono (Snap.le_refl G) hle hb⟩
      · cases hg : G w.heap.size with
        | none => rfl
        | some x => exact absurd rfl (fresh _ _ (hs.g _ _ hg))
      · cases hg : L w.heap.size with
        | none => rfl
        | some x => exact absurd rfl (fresh _ _ (hs.l _ _ hg))
      · simp [World.alloc, hw]
    · rw [if_neg hid] at hk'
      rcases hs.own id k' hk' with ⟨he, he'⟩ | ⟨b, base, ext', o', h1, h2, h3, h4, h5⟩
      · exact .inl ⟨he, by simp [Inj.put, hid, he']⟩
      · exact .inr ⟨b, base, ext', o', hle _ _ h1, h2, h3, old _ _ h4, BR_mono (Snap.le_refl G) hle h5⟩
  · intro i j ki kj b x x' hi hj hxi hxj
    rw [Heap.at_set] at hi hj
    have lt : ∀ id k', h.at id = some k' → id ≠ n → ∀ y, (I.put n (w.heap.size, 0, ext)) id = some (b, y) → b < w.heap.size := by
      intro id k' hk' hid y hy
      rcases hs.own id k' hk' with ⟨_, he⟩ | ⟨b', base', ext', o', h1, h2, h3, h4, h5⟩
      · simp [Inj.put, hid, he] at hy
      · simp [Inj.put, hid, h1] at hy
        rw [← hy.1]
        exact (Array.getElem?_eq_some_iff.1 h4).1
    by_cases h1 : i = n <;> by_cases h2 : j = n
    · omega
    · subst h1
      rw [if_neg h2] at hj
      have := lt j kj hj h2 _ hxj
      simp [Inj.put] at hxi
      omega
    · subst h2
      rw [if_neg h1] at hi
      have := lt i ki hi h1 _ hxi
      simp [Inj.put] at hxj
      omega
    · rw [if_neg h1] at hi; rw [if_neg h2] at hj
      simp [Inj.put, h1] at hxi
      simp [Inj.put, h2] at hxj
      exact hs.inj i j ki kj b x x' hi hj hxi hxj
  · exact ho.trans hs.out

/-- A block of no cells that lies nowhere. -/
theorem St.nowhere (hs : St G L I h w) {n : Nat} (hn : I n = none) : St G L I (h.set n (some (.cells []))) w := by
  constructor
  · exact hs.g
  · exact hs.l
  · exact hs.dis
  · intro id k hk
    rw [Heap.at_set] at hk
    split at hk
    · rename_i e; subst e; injection hk with hk; exact .inl ⟨hk.symm, hn⟩
    · exact hs.own id k hk
  · intro i j ki kj b x x' hi hj hxi hxj
    rw [Heap.at_set] at hi hj
    split at hi
    · rename_i e; subst e; rw [hn] at hxi; cases hxi
    · split at hj
      · rename_i e; subst e; rw [hn] at hxj; cases hxj
      · exact hs.inj i j ki kj b x x' hi hj hxi hxj
  · exact hs.out

theorem St.ownOf (hs : St G L I h w) {id b base ext : Nat} {k : Blk} (hi : I id = some (b, base, ext)) (hk : h.at id = some k) :
    ∃ o, G b = none ∧ L b = none ∧ w.heap[b]? = some o ∧ BR G I k o base ext := by
  rcases hs.own id k hk with ⟨_, he⟩ | ⟨b', base', ext', o', h1, h2, h3, h4, h5⟩
  · rw [hi] at he; cases he
  · rw [hi] at h1; injection h1 with h1; injection h1 with h1 h1'; injection h1' with h1' h1''
    subst h1; subst h1'; subst h1''
    exact ⟨o', h2, h3, h4, h5⟩

/-- An own block's object turns. -/
theorem St.turn (hs : St G L I h w) {id b base ext : Nat} (hi : I id = some (b, base, ext)) {k k0 : Blk} (hk0 : h.at id = some k0) {o : Obj}
    {w1 : World} (hw : w1.heap = w.heap.setIfInBounds b o) (hb : BR G I k o base ext) (ho : outs w1 = outs w := by rfl) :
    St G L I (h.set id (some k)) w1 := by
  obtain ⟨o', h2, h3, h4, h5⟩ := hs.ownOf hi hk0
  have hlt : b < w.heap.size := (Array.getElem?_eq_some_iff.1 h4).1
  have old : ∀ (c : Nat) (x : Obj), c ≠ b → w.heap[c]? = some x → w1.heap[c]? = some x := by
    intro c x hc hx
    rw [hw, Array.getElem?_setIfInBounds]
    rw [if_neg (fun e => hc e.symm)]; exact hx
  constructor
  · exact fun c x hx => old c x (fun e => by subst e; rw [h2] at hx; cases hx) (hs.g c x hx)
  · exact fun c x hx => old c x (fun e => by subst e; rw [h3] at hx; cases hx) (hs.l c x hx)
  · exact hs.dis
  · intro id' k' hk'
    rw [Heap.at_set] at hk'
    by_cases hid : id' = id
    · subst hid
      simp at hk'; subst hk'
      exact .inr ⟨b, base, ext, o, hi, h2, h3, by rw [hw]; simp [hlt], hb⟩
    · rw [if_neg hid] at hk'
      rcases hs.own id' k' hk' with he | ⟨c, base', ext', o'', g1, g2, g3, g4, g5⟩
      · exact .inl he
      · refine .inr ⟨c, base', ext', o'', g1, g2, g3, old c _ (fun e => ?_) g4, g5⟩
        subst e
        exact hid (hs.inj id' id k' k0 c _ _ hk' hk0 g1 hi)
  · intro i j ki kj c x x' hhi hhj hxi hxj
    rw [Heap.at_set] at hhi hhj
    by_cases e1 : i = id <;> by_cases e2 : j = id
    · omega
    · subst e1; rw [if_neg e2] at hhj
      exact hs.inj i j k0 kj c x x' hk0 hhj hxi hxj
    · subst e2; rw [if_neg e1] at hhi
      exact hs.inj i j ki k0 c x x' hhi hk0 hxi hxj
    · rw [if_neg e1] at hhi; rw [if_neg e2] at hhj
      exact hs.inj i j ki kj c x x' hhi hhj hxi hxj
  · exact ho.trans hs.out

/-- A block is given up. -/
theorem St.kill (hs : St G L I h w) (id : Nat) : St G L I (h.set id none) w := by
  constructor
  · exact hs.g
  · exact hs.l
  · exact hs.dis
  · intro i k hk
    rw [Heap.at_set] at hk
    split at hk
    · cases hk
    · exact hs.own i k hk
  · intro i j ki kj b x x' hi hj
    rw [Heap.at_set] at hi hj
    split at hi
    · cases hi
    · split at hj
      · cases hj
      · exact hs.inj i j ki kj b x x' hi hj
  · exact hs.out

/-- The block of one id goes over to another. -/
theorem St.pass (hs : St G L I h w) {id n b base ext base' ext' : Nat} (hi : I id = some (b, base, ext)) {k0 k : Blk} (hk0 : h.at id = some k0)
    (hn : I n = none) (hf : h.at n = none) {o : Obj} {w1 : World} (hw : w1.heap = w.heap.setIfInBounds b o) (hb : BR G I k o base' ext') (ho : outs w1 = outs w := by rfl) :
    St G L (I.put n (b, base', ext')) ((h.set id none).set n (some k)) w1 := by
  obtain ⟨o', h2, h3, h4, h5⟩ := hs.ownOf hi hk0
  have hin : id ≠ n := fun e => by subst e; rw [hi] at hn; cases hn
  have hlt : b < w.heap.size := (Array.getElem?_eq_some_iff.1 h4).1
  have hle : I.le (I.put n (b, base', ext')) := Inj.le_put hn
  have old : ∀ (c : Nat) (x : Obj), c ≠ b → w.heap[c]? = some x → w1.heap[c]? = some x := by
    intro c x hc hx
    rw [hw, Array.getElem?_setIfInBounds]
    rw [if_neg (fun e => hc e.symm)]; exact hx
  have hat : ∀ j, ((h.set id none).set n (some k)).at j = if j = n then some k else if j = id then none else h.at j := by
    intro j; rw [Heap.at_set, Heap.at_set]
  constructor
  · exact fun c x hx => old c x (fun e => by subst e; rw [h2] at hx; cases hx) (hs.g c x hx)
  · exact fun c x hx => old c x (fun e => by subst e; rw [h3] at hx; cases hx) (hs.l c x hx)
  · exact hs.dis
  · intro id' k' hk'
    rw [hat] at hk'
    by_cases hid : id' = n
    · subst hid
      simp at hk'; subst hk'
      exact .inr ⟨b, base', ext', o, by simp [Inj.put], h2, h3, by rw [hw]; simp [hlt], BR_mono (Snap.le_refl G) hle hb⟩
    · rw [if_neg hid] at hk'
      split at hk'
      · cases hk'
      · rename_i hid2
        rcases hs.own id' k' hk' with ⟨he, he'⟩ | ⟨c, base1, ext1, o'', g1, g2, g3, g4, g5⟩
        · exact .inl ⟨he, by simp [Inj.put, hid, he']⟩
        · refine .inr ⟨c, base1, ext1, o'', hle _ _ g1, g2, g3, old c _ (fun e => ?_) g4, BR_mono (Snap.le_refl G) hle g5⟩
          subst e
          exact hid2 (hs.inj id' id k' k0 c _ _ hk' hk0 g1 hi)
  · have key : ∀ (j : Nat) (kj : Blk) (c : Nat) (x' : Nat × Nat), h.at j = some kj → j ≠ n → j ≠ id → (I.put n (b, base', ext')) j = some (c, x') → c ≠ b := by
      intro j kj c x' hj m1 m2 hx e
      subst e
      simp [Inj.put, m1] at hx
      exact m2 (hs.inj j id kj k0 c _ _ hj hk0 hx hi)
    intro i j ki kj c x x' hhi hhj hxi hxj
    rw [hat] at hhi hhj
    by_cases e1 : i = n <;> by_cases e2 : j = n
    · omega
    · subst e1
      rw [if_neg e2] at hhj
      split at hhj
      · cases hhj
      · rename_i e3
        have := key j kj c x' hhj e2 e3 hxj
        simp [Inj.put] at hxi
        exact absurd hxi.1.symm this
    · subst e2
      rw [if_neg e1] at hhi
      split at hhi
      · cases hhi
      · rename_i e3
        have := key i ki c x hhi e1 e3 hxi
        simp [Inj.put] at hxj
        exact absurd hxj.1.symm this
    · rw [if_neg e1] at hhi; rw [if_neg e2] at hhj
      split at hhi
      · cases hhi
      · split at hhj
        · cases hhj
        · simp [Inj.put, e1] at hxi
          simp [Inj.put, e2] at hxj
          exact hs.inj i j ki kj c x x' hhi hhj hxi hxj
  · exact ho.trans hs.out

/-- Worlds with the same memory. -/
theorem St.world (hs : St G L I h w) {w1 : World} (hw : w1.heap = w.heap) (ho : outs w1 = outs w := by rfl) : St G L I h w1 :=
  ⟨fun b x hx => by rw [hw]; exact hs.g b x hx, fun b x hx => by rw [hw]; exact hs.l b x hx, hs.dis,
   fun i k hk => by rw [hw]; exact hs.own i k hk, hs.inj, ho.trans hs.out⟩
end
end Go.AM

namespace Go.AM

def Done (P : Program) (G : Snap) (L : Lk) (I : Inj) (h : Heap) (n : Nat) (s : Sem Next) (w : World) (v : AV) (u : Upd) : Prop :=
  ∃ res cv w' I', s.run P w = .ok res w' ∧ (res = .value cv ∨ (res = .skip ∧ cv = undef)) ∧ I.le I' ∧ (∀ i, i ≠ n → I' i = I i) ∧
    (n ∉ u.map (·.1) → I' = I) ∧ St G L I' (h.upd u) w' ∧ VR G I' v cv

section
variable {P : Program} {w : World} {G : Snap} {L : Lk} {I : Inj} {h : Heap} {n : Nat}

theorem Done.pure (hs : St G L I h w) {s : Sem Next} {v : AV} {cv : Value} (hr : s.run P w = .ok (.value cv) w) (hv : VR G I v cv) : Done P G L I h n s w v [] :=
  ⟨_, cv, w, I, hr, .inl rfl, Inj.le_refl I, fun _ _ => rfl, fun _ => rfl, hs, hv⟩

theorem Done.new (hs : St G L I h w) (hn : I n = none) (hf : h.at n = none) {s : Sem Next} {v : AV} {cv : Value} {k : Blk} {o : Obj} {ext : Nat} {w1 : World}
    (hw : w1.heap = w.heap) (hr : s.run P w = .ok (.value cv) (w1.alloc o)) (hb : BR G I k o 0 ext)
    (hv : VR G (I.put n (w.heap.size, 0, ext)) v cv) (ho : outs w1 = outs w := by rfl) : Done P G L I h n s w v [(n, some k)] :=
  ⟨_, cv, _, I.put n (w.heap.size, 0, ext), hr, .inl rfl, Inj.le_put hn, fun i hi => by simp [Inj.put, hi], fun hx => by simp at hx, hs.alloc hn hf hw hb ho, hv⟩

theorem vOne_sound {v : Value} {a : AV} (hv : vOne v = some a) : VR G I a v ∧ a.one = true := by
  unfold vOne at hv
  split at hv <;> (try cases hv) <;> simp [VR, AV.one]

theorem vOnes_sound : ∀ {vs : List Value} {as : List AV}, vOnes vs = some as → VRs G I as vs ∧ as.all AV.one = true
  | [], as, hv => by simp [vOnes] at hv; subst hv; simp [VRs]
  | v :: vs, as, hv => by
    simp only [vOnes] at hv
    split at hv
    · rename_i a as' h1 h2
      injection hv with hv; subst hv
      have g1 := vOne_sound (G := G) (I := I) h1
      have g2 := vOnes_sound h2
      exact ⟨by simp only [VRs]; exact ⟨v, vs, rfl, g1.1, g2.1⟩, by simp [g1.2]; simpa using g2.2⟩
    · cases hv

theorem vOf_sound {v : Value} {a : AV} (hv : vOf v = some a) : VR G I a v ∧ a.val = true := by
  unfold vOf at hv
  split at hv
  · rename_i cs
    cases h1 : vOnes cs.toList with
    | none => simp [h1] at hv
    | some as =>
      simp [h1] at hv; subst hv
      have g := vOnes_sound (G := G) (I := I) h1
      exact ⟨by simp only [VR]; exact ⟨cs.toList, by simp, g.1⟩, by simpa [AV.val] using g.2⟩
  · have g := vOne_sound (G := G) (I := I) hv
    refine ⟨g.1, ?_⟩
    have := g.2
    cases a <;> simp_all [AV.val, AV.one]

/-- The frame's slots. -/
def EnvR (G : Snap) (I : Inj) (env : List AV) (tmps : Array Value) : Prop := VRs G I env tmps.toList

theorem EnvR.get {env : List AV} {a : Act} (he : EnvR G I env a.tmps) (t : Nat) : VR G I (env.getD t .undef) (a.tmps.getD t undef) := by
  rcases Nat.lt_or_ge t env.length with hl | hl
  · obtain ⟨v, h1, h2⟩ := VRs_get he (List.getElem?_eq_getElem hl)
    have : a.tmps[t]? = some v := by simpa using h1
    have h3 : a.tmps.getD t undef = v := by simp [Array.getD_eq_getD_getElem?, this]
    rw [h3]
    simpa [List.getD, List.getElem?_eq_getElem hl] using h2
  · simp [List.getD, List.getElem?_eq_none hl, VR]

theorem ev_sound {env : List AV} {a : Act} (he : EnvR G I env a.tmps) {x : Operand} {r : RO} (hr : cRO x = some r) : VR G I (r.ev env) (a.eval x) := by
  cases x with
  | tmp t => simp [cRO] at hr; subst hr; exact he.get t
  | const v =>
    simp only [cRO] at hr
    cases h1 : vOf v with
    | none => simp [h1] at hr
    | some b => simp [h1] at hr; subst hr; exact (vOf_sound h1).1
  | func f => simp [cRO] at hr; subst hr; simp [RO.ev, VR, VRs, Act.eval]
  | global g => simp [cRO] at hr

theorem cROs_sound {env : List AV} {a : Act} (he : EnvR G I env a.tmps) : ∀ {xs : List Operand} {rs : List RO}, cROs xs = some rs → VRs G I (rs.map (RO.ev env)) (xs.map a.eval)
  | [], rs, hr => by simp [cROs] at hr; subst hr; simp [VRs]
  | x :: xs, rs, hr => by
    simp only [cROs] at hr
    split at hr
    · rename_i r rs' h1 h2
      injection hr with hr; subst hr
      simp only [List.map_cons, VRs]
      exact ⟨_, _, rfl, ev_sound he h1, cROs_sound he h2⟩
    · cases hr

theorem zeroP_sound {t : TypeId} {z : List AV} (hz : zeroP P t = some z) : ∃ (i : TypeInfo) (zv : Value), P.info? t = some i ∧ i.zero = some zv ∧ VRs G I z zv.cells.toList ∧ z.all AV.one = true := by
  unfold zeroP at hz
  cases hi : P.info? t with
  | none => simp [hi] at hz
  | some i =>
    cases hz0 : i.zero with
    | none => simp [hi, hz0] at hz
    | some zv =>
      simp [hi, hz0] at hz
      have := vOnes_sound (G := G) (I := I) hz
      exact ⟨i, zv, rfl, hz0, this.1, this.2⟩

theorem zeroV_sound {t : TypeId} {z : AV} (hz : zeroV P t = some z) : ∃ (zv : Value), (zeroValue t).run P w = .ok zv w ∧ VR G I z zv := by
  unfold zeroV at hz
  cases hi : P.info? t with
  | none => simp [hi] at hz
  | some i =>
    cases hz0 : i.zero with
    | none => simp [hi, hz0] at hz
    | some zv =>
      simp [hi, hz0] at hz
      exact ⟨zv, by simp [zeroValue, typeInfo, hi, hz0], (vOf_sound hz).1⟩

theorem run_zeroValue {t : TypeId} {i : TypeInfo} {zv : Value} (hi : P.info? t = some i) (hz : i.zero = some zv) : (zeroValue t).run P w = .ok zv w := by
  simp [zeroValue, typeInfo, hi, hz]

/-- Cells of a block that was just made. -/
theorem BR_new {cs : List AV} {vs : List Value} {e : TypeId} {rest : Array Value} (hv : VRs G I cs vs) (h1 : cs.all AV.one = true) {ext : Nat} (he : cs.length ≤ ext)
    (hx : ext ≤ vs.length + rest.size) : BR G I (.cells cs) (.cells (vs.toArray ++ rest) e) 0 ext := by
  have hl := VRs_length hv
  refine ⟨_, _, rfl, he, by simp; omega, fun j a hj => ?_⟩
  have hlt : j < cs.length := (List.getElem?_eq_some_iff.1 hj).1
  obtain ⟨v, h2, h3⟩ := VRs_get hv hj
  refine ⟨(List.all_eq_true.1 h1) a (List.mem_of_getElem? hj), v, ?_, h3⟩
  rw [Nat.zero_add, Array.getElem?_append_left (by simp; omega)]
  simpa using h2

theorem alloc_sound (hs : St G L I h w) (hn : I n = none) (hf : h.at n = none) {e : TypeId} {z : List AV} (hz : zeroP P e = some z) {old : Value}
    : Done P G L I h n (do let v ← Instr.alloc e true old; Pure.pure (Next.value v)) w (.ptr n 0) [(n, some (.cells z))] := by
  obtain ⟨i, zv, hi, hz0, hv, h1⟩ := zeroP_sound (G := G) (I := I) hz
  have hl := VRs_length hv
  have hr : (do let v ← Instr.alloc e true old; Pure.pure (Next.value v) : Sem Next).run P w = .ok (.value (.pointer (some ⟨w.heap.size, 0, none⟩))) (w.alloc (.cells zv.cells e)) := by
    simp [Instr.alloc, run_zeroValue hi hz0, newVar, newRow]
  refine Done.new (ext := z.length) hs hn hf rfl hr ?_ ?_
  · have := BR_new (e := e) (rest := #[]) (ext := z.length) hv h1 (Nat.le_refl _) (by simp at hl ⊢; omega)
    simpa using this
  · simp [VR, Inj.put]

theorem box_sound (hs : St G L I h w) (hn : I n = none) (hf : h.at n = none) {e : TypeId} {a : AV} {c : Value} (hv : VR G I a c) (h1 : a.val = true)
    : Done P G L I h n (do let v ← Instr.box e c; Pure.pure (Next.value v)) w (.ptr n 0) [(n, some (.cells a.cells))] := by
  have hc := VR_cells hv h1
  have hl := VRs_length hc
  have hr : (do let v ← Instr.box e c; Pure.pure (Next.value v) : Sem Next).run P w = .ok (.value (.pointer (some ⟨w.heap.size, 0, none⟩))) (w.alloc (.cells c.cells e)) := by
    simp [Instr.box, newVar, newRow]
  refine Done.new (ext := a.cells.length) hs hn hf rfl hr ?_ ?_
  · have := BR_new (e := e) (rest := #[]) (ext := a.cells.length) hc (val_cells h1) (Nat.le_refl _) (by simp at hl ⊢; omega)
    simpa using this
  · simp [VR, Inj.put]
end
end Go.AM

namespace Go.AM
section
variable {P : Program} {w : World} {G : Snap} {L : Lk} {I : Inj} {h : Heap} {n : Nat}

theorem fold_set (off : Nat) : ∀ (vs : List Value) (k : Nat) (cs : Array Value), off + k + vs.length ≤ cs.size →
    ((vs.zipIdx k).foldl (fun (a : Array Value) (p : Value × Nat) => a.setIfInBounds (off + p.2) p.1) cs).toList = cs.toList.take (off + k) ++ vs ++ cs.toList.drop (off + k + vs.length)
  | [], k, cs, _ => by simp
  | v :: vs, k, cs, hl => by
    simp only [List.length_cons] at hl
    simp only [List.zipIdx_cons, List.foldl_cons]
    rw [fold_set off vs (k + 1) _ (by simp; omega)]
    simp only [Array.toList_setIfInBounds, List.length_cons]
    have e1 : off + (k + 1) = off + k + 1 := by omega
    have e2 : off + (k + 1) + vs.length = off + k + (vs.length + 1) := by omega
    rw [e2, e1]
    have hlt : off + k < cs.toList.length := by simp; omega
    have h1 : (cs.toList.set (off + k) v).take (off + k + 1) = cs.toList.take (off + k) ++ [v] := by
      rw [List.take_succ_eq_append_getElem (by simpa using hlt)]
      simp [List.take_set_of_le]
    have h2 : (cs.toList.set (off + k) v).drop (off + k + (vs.length + 1)) = cs.toList.drop (off + k + (vs.length + 1)) := by
      rw [List.drop_set_of_lt (by omega)]
    rw [h1, h2]
    simp

theorem VRs_overwrite {cs vs : List AV} {ca va : List Value} (hc : VRs G I cs ca) (hv : VRs G I vs va) (off : Nat) :
    VRs G I (overwrite cs off vs) (ca.take off ++ va ++ ca.drop (off + va.length)) := by
  unfold overwrite
  rw [VRs_length hv]
  exact VRs_append (VRs_append (VRs_take hc off) hv) (VRs_drop hc _)

theorem length_overwrite {cs vs : List AV} {off : Nat} (hl : off + vs.length ≤ cs.length) : (overwrite cs off vs).length = cs.length := by
  unfold overwrite; simp; omega

theorem all_overwrite {cs vs : List AV} {off : Nat} (h1 : cs.all AV.one = true) (h2 : vs.all AV.one = true) : (overwrite cs off vs).all AV.one = true := by
  unfold overwrite
  simp only [List.all_append, Bool.and_eq_true]
  rw [List.all_eq_true] at h1
  exact ⟨⟨List.all_eq_true.2 fun x hx => h1 x (List.mem_of_mem_take hx), h2⟩, List.all_eq_true.2 fun x hx => h1 x (List.mem_of_mem_drop hx)⟩

theorem fill_sound {env : List AV} {a : Act} (he : EnvR G I env a.tmps) (place : Nat → Option (Nat × Nat)) : ∀ (ops : List (Nat × Operand)) (ps : List (Nat × Nat × RO)) (cs : List AV) (ca : Array Value) (r : List AV),
    cParts place ops = some ps → VRs G I cs ca.toList → fillA env cs ps = some (true, r) → cs.all AV.one = true →
    ∃ ra, Instr.fill place ca (ops.map fun (i, x) => (i, a.eval x)) = some ra ∧ VRs G I r ra.toList ∧ r.all AV.one = true ∧ r.length = cs.length
  | [], ps, cs, ca, r, hp, hc, hf, h1 => by
    simp [cParts] at hp; subst hp
    simp [fillA] at hf; subst hf
    exact ⟨ca, by simp [Instr.fill], hc, h1, rfl⟩
  | (i, x) :: ops, ps, cs, ca, r, hp, hc, hf, h1 => by
    simp only [cParts] at hp
    split at hp
    · rename_i off size rx rs hpl hrx hrs
      injection hp with hp; subst hp
      simp only [fillA] at hf
      split at hf
      · rename_i hcond
        split at hf
        · rename_i b r' hf'
          injection hf with hf; injection hf with hb hr; subst hr
          simp only [Bool.and_eq_true] at hb
          obtain ⟨hval, hb⟩ := hb; subst hb
          have hvx := ev_sound he hrx
          have hcx := VR_cells hvx hval
          have hlx := VRs_length hcx
          have hlc := VRs_length hc
          have hsz : (a.eval x).cells.size = size := by simp at hlx; omega
          have hfold := fold_set off (a.eval x).cells.toList 0 ca (by simp at hlx hlc ⊢; omega)
          have hc2 : VRs G I (overwrite cs off (rx.ev env).cells) (((a.eval x).cells.toList.zipIdx 0).foldl (fun (a : Array Value) (p : Value × Nat) => a.setIfInBounds (off + p.2) p.1) ca).toList := by
            rw [hfold]; exact VRs_overwrite hc hcx off
          have hlen : (overwrite cs off (rx.ev env).cells).length = cs.length := length_overwrite (by omega)
          obtain ⟨ra, g1, g2, g3, g4⟩ := fill_sound he place ops rs _ _ _ hrs hc2 hf' (all_overwrite h1 (val_cells hval))
          refine ⟨ra, ?_, g2, g3, by omega⟩
          simp only [List.map_cons, Instr.fill, hpl, hsz]
          rw [if_neg]
          · rw [← Array.foldl_toList, Array.toList_zipIdx]
            exact g1
          · simp at hlc
            simp; omega
        · cases hf
      · cases hf
    · cases hp

theorem fields_mapM : ∀ (l : List Field), (∀ f ∈ l, ∃ k, szP P f.type = some k) →
    ∃ out : List (Nat × Nat), (l.mapM (fun (f : Field) => (do pure (f.offset, ← Go.sizeOf f.type) : Sem (Nat × Nat)))).run P w = .ok out w ∧ out.length = l.length ∧
      ∀ (i : Nat) (f : Field), l[i]? = some f → ∃ k, szP P f.type = some k ∧ out[i]? = some (f.offset, k)
  | [], _ => ⟨[], by simp, rfl, by simp⟩
  | f :: l, hl => by
    obtain ⟨k, hk⟩ := hl f (by simp)
    obtain ⟨out, h1, h2, h3⟩ := fields_mapM l fun g hg => hl g (by simp [hg])
    refine ⟨(f.offset, k) :: out, ?_, by simp [h2], ?_⟩
    · simp only [bind_pure_comp] at h1
      simp [List.mapM_cons, run_sizeOf hk, h1]
    · intro i g hi
      cases i with
      | zero => simp at hi; subst hi; exact ⟨k, hk, by simp⟩
      | succ i => simp at hi ⊢; exact h3 i g hi
end
end Go.AM

namespace Go.AM
section
variable {P : Program} {w : World} {G : Snap} {L : Lk} {I : Inj} {h : Heap} {n : Nat}

theorem szP_all {fs : Array Field} (h : fs.toList.all (fun f => (szP P f.type).isSome) = true) : ∀ f ∈ fs.toList, ∃ k, szP P f.type = some k := by
  intro f hf
  have := (List.all_eq_true.1 h) f hf
  exact Option.isSome_iff_exists.1 this

theorem build_struct_sound {env : List AV} {a : Act} (he : EnvR G I env a.tmps) {t : TypeId} {fs : Array Field} {z : List AV} {ps : List (Nat × Nat × RO)} {ops : Array (Nat × Operand)}
    (hu : P.underlying t = some (.struct fs)) (hz : zeroP P t = some z) (hall : fs.toList.all (fun f => (szP P f.type).isSome) = true)
    (hp : cParts (fun i => match fs[i]? with | some f => (szP P f.type).map fun s => (f.offset, s) | none => none) ops.toList = some ps)
    {cs : List AV} (hf : fillA env z ps = some (true, cs)) :
    ∃ cv, (Instr.build t (ops.map fun (i, x) => (i, a.eval x))).run P w = .ok cv w ∧ VR G I (.agg cs) cv := by
  obtain ⟨i, zv, hi, hz0, hv, h1⟩ := zeroP_sound (G := G) (I := I) hz
  obtain ⟨out, m1, m2, m3⟩ := fields_mapM (P := P) (w := w) fs.toList (szP_all hall)
  have hplace : (fun (i : Nat) => match fs[i]? with | some f => (szP P f.type).map fun s => (f.offset, s) | none => none) = (fun (i : Nat) => out[i]?) := by
    funext j
    have e : fs[j]? = fs.toList[j]? := by simp
    rw [e]
    cases hj : fs.toList[j]? with
    | none =>
      have : fs.toList.length ≤ j := by simpa using hj
      simp; omega
    | some f =>
      obtain ⟨k, hk, ho⟩ := m3 j f hj
      simp [hk, ho]
  rw [hplace] at hp
  obtain ⟨ra, g1, g2, g3, g4⟩ := fill_sound he _ ops.toList ps z zv.cells cs hp hv hf h1
  refine ⟨.agg ra, ?_, by simp only [VR]; exact ⟨ra.toList, by simp, g2⟩⟩
  have hm : (fs.mapM (fun (f : Field) => (do pure (f.offset, ← Go.sizeOf f.type) : Sem (Nat × Nat)))).run P w = .ok out.toArray w := by
    rw [Array.mapM_eq_mapM_toList]
    simp only [bind_pure_comp] at m1
    simp [m1]
  have hfill : Instr.fill (fun i => out.toArray[i]?) zv.cells (ops.map fun (i, x) => (i, a.eval x)).toList = some ra := by
    simpa using g1
  simp only [bind_pure_comp] at hm
  simp only [List.getElem?_toArray, Array.toList_map] at hfill
  simp [Instr.build, run_zeroValue hi hz0, run_underlying hu, hm, hfill]

theorem build_array_sound {env : List AV} {a : Act} (he : EnvR G I env a.tmps) {t e : TypeId} {m s : Nat} {z : List AV} {ps : List (Nat × Nat × RO)} {ops : Array (Nat × Operand)}
    (hu : P.underlying t = some (.array m e)) (hz : zeroP P t = some z) (hsz : szP P e = some s)
    (hp : cParts (fun i => some (i * s, s)) ops.toList = some ps)
    {cs : List AV} (hf : fillA env z ps = some (true, cs)) :
    ∃ cv, (Instr.build t (ops.map fun (i, x) => (i, a.eval x))).run P w = .ok cv w ∧ VR G I (.agg cs) cv := by
  obtain ⟨i, zv, hi, hz0, hv, h1⟩ := zeroP_sound (G := G) (I := I) hz
  obtain ⟨ra, g1, g2, g3, g4⟩ := fill_sound he _ ops.toList ps z zv.cells cs hp hv hf h1
  refine ⟨.agg ra, ?_, by simp only [VR]; exact ⟨ra.toList, by simp, g2⟩⟩
  have hfill : Instr.fill (fun i => some (i * s, s)) zv.cells (ops.map fun (i, x) => (i, a.eval x)).toList = some ra := by
    simpa using g1
  simp only [Array.toList_map] at hfill
  simp [Instr.build, run_zeroValue hi hz0, run_underlying hu, run_sizeOf hsz, hfill]

theorem VRs_replicate {z : List AV} {zc : List Value} (hv : VRs G I z zc) : ∀ k, VRs G I ((List.replicate k z).flatten) ((List.replicate k zc).flatten)
  | 0 => by simp [VRs]
  | k + 1 => by simp only [List.replicate_succ, List.flatten_cons]; exact VRs_append hv (VRs_replicate hv k)

theorem all_replicate {z : List AV} (h1 : z.all AV.one = true) (k : Nat) : ((List.replicate k z).flatten).all AV.one = true := by
  rw [List.all_eq_true] at h1 ⊢
  intro x hx
  obtain ⟨l, hl, hx⟩ := List.mem_flatten.1 hx
  rw [(List.mem_replicate.1 hl).2] at hx
  exact h1 x hx

theorem getElem?_flatten_replicate {α : Type} (z : List α) : ∀ (k j : Nat), j < k * z.length → ((List.replicate k z).flatten)[j]? = z[j % z.length]?
  | 0, j, hj => by simp at hj
  | k + 1, j, hj => by
    simp only [List.replicate_succ, List.flatten_cons]
    rcases Nat.lt_or_ge j z.length with hl | hl
    · rw [List.getElem?_append_left hl, Nat.mod_eq_of_lt hl]
    · rw [List.getElem?_append_right hl]
      rw [getElem?_flatten_replicate z k _ (by rw [Nat.add_mul] at hj; omega)]
      congr 1
      rw [Nat.mod_eq_sub_mod hl]

theorem range_zeros (z : Array Value) (k : Nat) (hz : 0 < z.size) : ((Array.range (k * z.size)).map (z[· % z.size]!)).toList = (List.replicate k z.toList).flatten := by
  apply List.ext_getElem?
  intro j
  rcases Nat.lt_or_ge j (k * z.size) with hl | hl
  · rw [getElem?_flatten_replicate z.toList k j (by simpa using hl)]
    have hm : j % z.size < z.size := Nat.mod_lt _ hz
    simp [hl, hm]
  · have h2 : ((List.replicate k z.toList).flatten).length ≤ j := by simpa using hl
    rw [List.getElem?_eq_none h2]
    simp; omega

theorem cParts2_parts {s : Nat} : ∀ {ops : List (Nat × Operand)} {rs : List (Nat × RO)}, cParts2 ops = some rs → cParts (fun i => some (i * s, s)) ops = some (rs.map fun (i, x) => (i * s, s, x))
  | [], rs, h => by simp [cParts2] at h; subst h; simp [cParts]
  | (i, x) :: ops, rs, h => by
    simp only [cParts2] at h
    split at h
    · rename_i r rs' h1 h2
      injection h with h; subst h
      simp [cParts, h1, cParts2_parts h2]
    · cases h

theorem bslice_sound (hs : St G L I h w) (hn : I n = none) (hf : h.at n = none) {env : List AV} {a : Act} (he : EnvR G I env a.tmps) {t e : TypeId} {len s : Nat} {z : List AV} {rs : List (Nat × RO)} {ops : Array (Nat × Operand)}
    (hu : P.underlying t = some (.slice e)) (hz : zeroP P e = some z) (hsz : szP P e = some s) (hzl : z.length = s) (hs0 : 0 < s) (hlim : len * s ≤ 2 ^ 24)
    (hp : cParts2 ops.toList = some rs) {cs : List AV} (hfa : fillA env ((List.replicate len z).flatten) (rs.map fun (i, x) => (i * s, s, x)) = some (true, cs)) :
    Done P G L I h n (do let v ← Instr.buildSlice t len (ops.map fun (i, x) => (i, a.eval x)); Pure.pure (Next.value v)) w (.slice n 0 len s) [(n, some (.cells cs))] := by
  obtain ⟨i, zv, hi, hz0, hv, h1⟩ := zeroP_sound (G := G) (I := I) hz
  have hzlen := VRs_length hv
  have hzs : zv.cells.size = s := by simp at hzlen; omega
  have hca : ((Array.range (len * s)).map (zv.cells[· % zv.cells.size]!)).toList = (List.replicate len zv.cells.toList).flatten := by
    rw [← hzs]; exact range_zeros zv.cells len (by omega)
  have hvr : VRs G I ((List.replicate len z).flatten) ((Array.range (len * s)).map (zv.cells[· % zv.cells.size]!)).toList := by
    rw [hca]; exact VRs_replicate hv len
  obtain ⟨ra, g1, g2, g3, g4⟩ := fill_sound he _ ops.toList _ _ _ cs (cParts2_parts hp) hvr hfa (all_replicate h1 len)
  have hfill : Instr.fill (fun i => some (i * s, s)) ((Array.range (len * s)).map (zv.cells[· % zv.cells.size]!)) (ops.map fun (i, x) => (i, a.eval x)).toList = some ra := by
    simpa using g1
  have hlen : cs.length = len * s := by rw [g4]; simp [hzl]
  have hl2 := VRs_length g2
  have hr : (do let v ← Instr.buildSlice t len (ops.map fun (i, x) => (i, a.eval x)); Pure.pure (Next.value v) : Sem Next).run P w = .ok (.value (.slice (some ⟨w.heap.size, 0, none⟩) len len)) (w.alloc (.cells ra e)) := by
    have hlim' : ¬ (16777216 < len * s) := by simpa using hlim
    simp only [Array.toList_map] at hfill
    by_cases hl0 : len * s = 0
    · have hra : ra.size = 0 := by simp at hl2; omega
      have hl : len = 0 := by
        rcases Nat.mul_eq_zero.1 hl0 with h | h
        · exact h
        · omega
      subst hl
      have hr0 : Array.range 0 = (#[] : Array Nat) := rfl
      have hfill2 : Instr.fill (fun i => some (i * s, s)) #[] (List.map (fun x => (x.fst, a.eval x.snd)) ops.toList) = some ra := by
        simpa [hr0] using hfill
      simp [Instr.buildSlice, run_underlying hu, run_sizeOf hsz, hr0, hfill2, newRow]
    · simp [Instr.buildSlice, run_underlying hu, run_sizeOf hsz, hlim', hl0, run_zeroValue hi hz0, hfill, newRow]
  refine Done.new (ext := len * s) hs hn hf rfl hr ?_ ?_
  · have := BR_new (e := e) (rest := #[]) (ext := len * s) g2 g3 (by omega) (by simp at hl2 ⊢; omega)
    simpa using this
  · simp only [VR]
    exact .inr ⟨w.heap.size, 0, len * s, len, by simp [Inj.put], by simp, Nat.le_refl _, by omega⟩
end
end Go.AM

namespace Go.AM
section
variable {P : Program} {w : World} {G : Snap} {L : Lk} {I : Inj} {h : Heap} {n : Nat}

theorem one_oneCell {a : AV} {c : Value} (hv : VR G I a c) (h1 : a.one = true) : c.oneCell' = true := by
  obtain ⟨_, h2, h3⟩ := VR_one hv h1
  cases c <;> simp [Value.oneCell']
  · exact h2 _ rfl
  · exact h3 _ rfl

theorem VRs_mem : ∀ {as : List AV} {vs : List Value}, VRs G I as vs → ∀ v ∈ vs, ∃ a ∈ as, VR G I a v
  | [], vs, hr, v, hv => by simp [VRs] at hr; subst hr; simp at hv
  | a :: as, vs, hr, v, hv => by
    simp only [VRs] at hr
    obtain ⟨v', r, rfl, h2, h3⟩ := hr
    rcases List.mem_cons.1 hv with rfl | hv
    · exact ⟨a, by simp, h2⟩
    · obtain ⟨b, hb, hr⟩ := VRs_mem h3 v hv
      exact ⟨b, by simp [hb], hr⟩

theorem all_oneCell {as : List AV} {vs : List Value} (hr : VRs G I as vs) (h1 : as.all AV.one = true) : ∀ v ∈ vs, v.oneCell' = true := by
  intro v hv
  obtain ⟨a, ha, hr⟩ := VRs_mem hr v hv
  exact one_oneCell hr ((List.all_eq_true.1 h1) a ha)

theorem setRow_heap_eq {b : Nat} {c cs : Array Value} {e : TypeId} (hb : w.heap[b]? = some (.cells c e (0, 0))) : (w.setRow b cs).heap = w.heap.setIfInBounds b (.cells cs e (0, 0)) := by
  apply Array.ext_getElem?
  intro i
  simp only [World.setRow, Array.getElem?_modify, Array.getElem?_setIfInBounds]
  have hlt : b < w.heap.size := (Array.getElem?_eq_some_iff.1 hb).1
  by_cases hi : b = i
  · subst hi
    have hb' := (Array.getElem?_eq_some_iff.1 hb).2
    simp [hb, hlt, hb']
  · simp [hi]

/-- A store into an own block, cell by cell. -/
theorem store_cells (hs : St G L I h w) {id b base ext off : Nat} (hi : I id = some (b, base, ext)) {cs vs : List AV} {ws : List Value}
    (hk : h.at id = some (.cells cs)) (hv : VRs G I vs ws) (h1 : vs.all AV.one = true) (hl : off + vs.length ≤ cs.length) :
    ∃ w', (storeCells ⟨b, base + off, none⟩ ws).run P w = .ok () w' ∧ St G L I (h.set id (some (.cells (overwrite cs off vs)))) w' := by
  obtain ⟨o, g2, g3, g4, g5⟩ := hs.ownOf hi hk
  obtain ⟨c, e, rfl, k2, k3, k4⟩ := g5
  have hlw := VRs_length hv
  have hrun := run_storeCells_at P b (base + off) e ws 0 c w g4 (by omega) (all_oneCell hv h1)
  refine ⟨_, hrun, ?_⟩
  refine hs.turn (o := .cells (c.toList.take (base + off + 0) ++ ws ++ c.toList.drop (base + off + 0 + ws.length)).toArray e (0, 0)) hi hk (setRow_heap_eq g4) ?_
  refine ⟨_, e, rfl, ?_, ?_, ?_⟩
  · rw [length_overwrite hl]; exact k2
  · simp; omega
  · intro j a hj
    have hj' : j < cs.length := by
      have := (List.getElem?_eq_some_iff.1 hj).1
      rwa [length_overwrite hl] at this
    unfold overwrite at hj
    simp only [Nat.add_zero, List.getElem?_toArray]
    rcases Nat.lt_or_ge j off with q | q
    · rw [List.append_assoc, List.getElem?_append_left (by simp; omega), List.getElem?_take, if_pos q] at hj
      obtain ⟨k41, v, k42, k43⟩ := k4 j a hj
      refine ⟨k41, v, ?_, k43⟩
      rw [List.append_assoc, List.getElem?_append_left (by simp; omega), List.getElem?_take, if_pos (by omega)]
      simpa using k42
    · rcases Nat.lt_or_ge j (off + vs.length) with q2 | q2
      · rw [List.append_assoc, List.getElem?_append_right (by simp; omega), List.getElem?_append_left (by simp; omega)] at hj
        have e1 : j - (cs.take off).length = j - off := by simp; omega
        rw [e1] at hj
        obtain ⟨v, k42, k43⟩ := VRs_get hv hj
        refine ⟨(List.all_eq_true.1 h1) a (List.mem_of_getElem? hj), v, ?_, k43⟩
        rw [List.append_assoc, List.getElem?_append_right (by simp; omega), List.getElem?_append_left (by simp; omega)]
        have e2 : base + j - (c.toList.take (base + off)).length = j - off := by simp; omega
        rw [e2]; exact k42
      · rw [List.append_assoc, List.getElem?_append_right (by simp; omega), List.getElem?_append_right (by simp; omega), List.getElem?_drop] at hj
        have e1 : off + vs.length + (j - (cs.take off).length - vs.length) = j := by simp; omega
        rw [e1] at hj
        obtain ⟨k41, v, k42, k43⟩ := k4 j a hj
        refine ⟨k41, v, ?_, k43⟩
        rw [List.append_assoc, List.getElem?_append_right (by simp; omega), List.getElem?_append_right (by simp; omega), List.getElem?_drop]
        have e2 : base + off + ws.length + (base + j - (c.toList.take (base + off)).length - ws.length) = base + j := by simp; omega
        rw [e2]; simpa using k42

theorem overwrite_nil (cs : List AV) (off : Nat) : overwrite cs off [] = cs := by unfold overwrite; simp

theorem Heap.set_same {h : Heap} {id : Nat} {k : Blk} (hk : h.at id = some k) : h.set id (some k) = h := by
  unfold Heap.at at hk
  unfold Heap.set
  have hlt : id < h.length := by
    rcases Nat.lt_or_ge id h.length with q | q
    · exact q
    · simp [List.getElem?_eq_none q] at hk
  rw [if_pos hlt]
  apply List.ext_getElem?
  intro j
  rw [List.getElem?_set]
  split
  · rename_i e; subst e
    simp [hlt]
    simp [hlt] at hk
    exact hk.symm
  · rfl

theorem store_sound (hs : St G L I h w) {t : TypeId} {m : Nat} {a x : AV} {ca cx : Value} {u : Upd} {v : AV} (ht : szP P t = some m) (hva : VR G I a ca) (hvx : VR G I x cx)
    (hrun : (match (generalizing := false) a with
      | .ptr id off => match h.at id with
        | some (.cells cs) =>
          if x.cells.length = m ∧ off + m ≤ cs.length then some (x.val, .tup [], [(id, some (.cells (overwrite cs off x.cells)))]) else none
        | _ => none
      | _ => (none : Res)) = some (true, v, u)) : Done P G L I h n (do Instr.storeAt t ca cx; Pure.pure Next.skip) w v u := by
  cases a <;> simp at hrun
  case ptr id off =>
    simp only [VR] at hva
    obtain ⟨b, base, ext, hi, rfl⟩ := hva
    cases hat : h.at id with
    | none => simp [hat] at hrun
    | some k =>
      cases k with
      | map es => simp [hat] at hrun
      | cells cs =>
        simp only [hat] at hrun
        split at hrun
        · rename_i hc
          injection hrun with hrun; injection hrun with hval hrun; injection hrun with hv hu
          subst hv; subst hu
          have hxc := VR_cells hvx hval
          have hlx := VRs_length hxc
          have hpart := store_cells (P := P) hs hi hat hxc (val_cells hval) (off := off) (by omega)
          obtain ⟨w', hr, hs'⟩ := hpart
          refine ⟨.skip, undef, w', I, ?_, .inr ⟨rfl, rfl⟩, Inj.le_refl I, fun _ _ => rfl, fun _ => rfl, hs', by simp [VR, VRs, undef]⟩
          have hsz : cx.cells.size = m := by simp at hlx; omega
          simp [Instr.storeAt, Instr.sureAddr, storeVar, run_sizeOf ht, hsz, hr]
        · cases hrun
end
end Go.AM

namespace Go.AM
section
variable {P : Program} {w : World} {G : Snap} {L : Lk} {I : Inj} {h : Heap} {n : Nat}

theorem faddr_sound {s : TypeId} {fs : Array Field} {f : Nat} {fd : Field} {k : Nat} (hu : P.underlying s = some (.struct fs)) (hf : fs[f]? = some fd) (hk : szP P fd.type = some k) (hk0 : k ≠ 0)
    {a v : AV} {ca : Value} {u : Upd} (hva : VR G I a ca)
    (hrun : (match (generalizing := false) a with
      | .ptr id o => okv (.ptr id (o + fd.offset))
      | .vptr cs o => okv (.vptr cs (o + fd.offset))
      | _ => (none : Res)) = some (true, v, u)) : u = [] ∧ ∃ cv, (Instr.fieldAt s ca f).run P w = .ok cv w ∧ VR G I v cv := by
  have hplace : ∀ b o, (fieldPlace ⟨b, o, none⟩ fd).run P w = .ok ⟨b, o + fd.offset, none⟩ w := by
    intro b o
    simp [fieldPlace, run_sizeOf hk, hk0, Addr.add_lit]
  cases a <;> simp [okv] at hrun
  case ptr id o =>
    obtain ⟨rfl, rfl⟩ := hrun
    simp only [VR] at hva
    obtain ⟨b, base, ext, hi, rfl⟩ := hva
    refine ⟨rfl, .pointer (some ⟨b, base + o + fd.offset, none⟩), by simp [Instr.fieldAt, run_underlying hu, hf, Instr.sureAddr, hplace], ?_⟩
    simp only [VR]; exact ⟨b, base, ext, hi, by rw [Nat.add_assoc]⟩
  case vptr cs o =>
    obtain ⟨rfl, rfl⟩ := hrun
    simp only [VR] at hva
    obtain ⟨b, o', obj, vs, rfl, hg, hv, hh⟩ := hva
    refine ⟨rfl, .pointer (some ⟨b, o' + o + fd.offset, none⟩), by simp [Instr.fieldAt, run_underlying hu, hf, Instr.sureAddr, hplace], ?_⟩
    simp only [VR]; exact ⟨b, o', obj, vs, by rw [Nat.add_assoc], hg, hv, hh⟩

theorem part_sound {t : TypeId} {ag : Option Nat} (ht : agP P t = some ag) {cs : List AV} {vs : List Value} (hv : VRs G I cs vs) {off : Nat} {v : AV} (hp : part ag cs off = some v) :
    ∃ cv, (Go.part t vs.toArray off).run P w = .ok cv w ∧ VR G I v cv := by
  have hl := VRs_length hv
  cases ag with
  | some k =>
    simp only [part] at hp
    split at hp
    · rename_i hle
      injection hp with hp; subst hp
      have h1 := (agP_agg (w := w) ht).1
      have h2 := (agP_agg (w := w) ht).2.1
      refine ⟨.agg ((vs.drop off).take k).toArray, ?_, ?_⟩
      · simp [Go.part, h1, h2]
        try (congr 1; omega)
      · simp only [VR]; exact ⟨_, rfl, VRs_take (VRs_drop hv off) k⟩
    · cases hp
  | none =>
    simp only [part] at hp
    obtain ⟨cv, h1, h2⟩ := VRs_get hv hp
    have h3 := agP_one (w := w) ht
    exact ⟨cv, by simp [Go.part, h3, h1], h2⟩

theorem field_sound {t : TypeId} {fs : Array Field} {f : Nat} {fd : Field} {ag : Option Nat} (hu : P.underlying t = some (.struct fs)) (hf : fs[f]? = some fd) (ht : agP P fd.type = some ag)
    {a v : AV} {ca : Value} {u : Upd} (hva : VR G I a ca)
    (hrun : (match (generalizing := false) a with
      | .agg cs => match part ag cs fd.offset with | some v => okv v | none => none
      | _ => (none : Res)) = some (true, v, u)) : u = [] ∧ ∃ cv, (Instr.field t ca f).run P w = .ok cv w ∧ VR G I v cv := by
  cases a <;> simp at hrun
  case agg cs =>
    simp only [VR] at hva
    obtain ⟨vs, rfl, hv⟩ := hva
    cases hp : part ag cs fd.offset with
    | none => simp [hp] at hrun
    | some v' =>
      simp [hp, okv] at hrun
      obtain ⟨rfl, rfl⟩ := hrun
      obtain ⟨cv, h1, h2⟩ := part_sound (w := w) ht hv hp
      exact ⟨rfl, cv, by simp [Instr.field, run_underlying hu, hf, asAgg, h1], h2⟩

theorem VR_int {k : IntKind} {m : Int} {c : Value} (hv : VR G I (.int k m) c) : c = .int k m := by simpa [VR] using hv

theorem iaA_sound {t e : TypeId} {len s : Nat} (hu : P.underlying t = some (.array len e)) (hs : szP P e = some s) {a ai v : AV} {ca ci : Value} {u : Upd} (hva : VR G I a ca) (hvi : VR G I ai ci)
    (hrun : (match (generalizing := false) a, ai with
      | .ptr id off, .int _ k => oki (decide (0 ≤ k ∧ k < len)) (.ptr id (off + k.toNat * s))
      | .vptr cs off, .int _ k => oki (decide (0 ≤ k ∧ k < len)) (.vptr cs (off + k.toNat * s))
      | _, _ => (none : Res)) = some (true, v, u)) : u = [] ∧ ∃ cv, (Instr.indexAt t ca ci).run P w = .ok cv w ∧ VR G I v cv := by
  cases a <;> (try (simp at hrun; done)) <;> cases ai <;> (try (simp at hrun; done))
  case ptr.int id off kk k =>
    simp [oki] at hrun
    obtain ⟨hc, rfl, rfl⟩ := hrun
    have := VR_int hvi; subst this
    simp only [VR] at hva
    obtain ⟨b, base, ext, hi, rfl⟩ := hva
    refine ⟨rfl, .pointer (some ⟨b, base + off + k.toNat * s, none⟩), ?_, ?_⟩
    · simp [Instr.indexAt, asIntOf, run_underlying hu, Instr.sureAddr, hc.1, hc.2, run_sizeOf hs, Addr.add_lit]
    · simp only [VR]; exact ⟨b, base, ext, hi, by rw [Nat.add_assoc]⟩
  case vptr.int cs off kk k =>
    simp [oki] at hrun
    obtain ⟨hc, rfl, rfl⟩ := hrun
    have := VR_int hvi; subst this
    simp only [VR] at hva
    obtain ⟨b, o', obj, vs, rfl, hg, hv, hh⟩ := hva
    refine ⟨rfl, .pointer (some ⟨b, o' + off + k.toNat * s, none⟩), ?_, ?_⟩
    · simp [Instr.indexAt, asIntOf, run_underlying hu, Instr.sureAddr, hc.1, hc.2, run_sizeOf hs, Addr.add_lit]
    · simp only [VR]; exact ⟨b, o', obj, vs, by rw [Nat.add_assoc], hg, hv, hh⟩

theorem flatV_length {s : Nat} : ∀ {vs : List Value}, (∀ v ∈ vs, v.cells.size = s) → (flatV vs).length = vs.length * s
  | [], _ => by simp [flatV]
  | v :: vs, hv => by
    have ih := flatV_length (vs := vs) (fun x hx => hv x (by simp [hx]))
    have h1 := hv v (by simp)
    simp only [flatV, List.flatMap_cons, List.length_append, List.length_cons, Array.length_toList] at ih ⊢
    rw [ih, h1, Nat.add_mul]; omega

theorem flatV_drop {s : Nat} : ∀ {vs : List Value} (i : Nat), (∀ v ∈ vs, v.cells.size = s) → i ≤ vs.length → (flatV vs).drop (i * s) = flatV (vs.drop i)
  | vs, 0, _, _ => by simp
  | [], i + 1, _, hi => by simp at hi
  | v :: vs, i + 1, hv, hi => by
    have ih := flatV_drop (vs := vs) i (fun x hx => hv x (by simp [hx])) (by simpa using hi)
    have h1 := hv v (by simp)
    simp only [flatV, List.flatMap_cons, List.drop_succ_cons] at ih ⊢
    rw [← ih, Nat.add_mul, Nat.one_mul, Nat.add_comm (i * s) s, ← List.drop_drop]
    congr 1
    rw [List.drop_append_of_le_length (by simp [h1])]
    rw [List.drop_of_length_le (by simp [h1])]
    rfl

theorem holdsAt_drop {obj : Obj} {o : Nat} {vs : List Value} (hh : holdsAt obj o vs) (i : Nat) (hi : i ≤ vs.length) : holdsAt obj (o + i) (vs.drop i) := by
  obtain ⟨c, e, fz, rfl, h2, h3⟩ := hh
  refine ⟨c, e, fz, rfl, by simp; omega, fun j v hj => ?_⟩
  rw [List.getElem?_drop] at hj
  rw [Nat.add_assoc]; exact h3 _ _ hj

theorem holdsAt_take {obj : Obj} {o : Nat} {vs : List Value} (hh : holdsAt obj o vs) (i : Nat) : holdsAt obj o (vs.take i) := by
  obtain ⟨c, e, fz, rfl, h2, h3⟩ := hh
  refine ⟨c, e, fz, rfl, by simp; omega, fun j v hj => ?_⟩
  rw [List.getElem?_take] at hj
  split at hj
  · exact h3 _ _ hj
  · cases hj

theorem iaS_sound {t e : TypeId} {s : Nat} (hu : P.underlying t = some (.slice e)) (hs : szP P e = some s) {a ai v : AV} {ca ci : Value} {u : Upd} (hva : VR G I a ca) (hvi : VR G I ai ci)
    (hrun : (match (generalizing := false) a, ai with
      | .lit sz' es, .int _ k => if sz' = s then oki (decide (0 ≤ k ∧ k < es.length)) (.vptr (es.getD k.toNat .undef).cells 0) else none
      | .slice id off len sz', .int _ k => if sz' = s then oki (decide (0 ≤ k ∧ k < len)) (.ptr id (off + k.toNat * s)) else none
      | _, _ => (none : Res)) = some (true, v, u)) : u = [] ∧ ∃ cv, (Instr.indexAt t ca ci).run P w = .ok cv w ∧ VR G I v cv := by
  cases a <;> (try (simp at hrun; done)) <;> cases ai <;> (try (simp at hrun; done))
  case lit.int sz' es kk k =>
    simp only at hrun
    split at hrun
    · rename_i hsz; subst hsz
      simp [oki] at hrun
      obtain ⟨hc, rfl, rfl⟩ := hrun
      have := VR_int hvi; subst this
      simp only [VR] at hva
      rcases hva with ⟨rfl, _⟩ | ⟨b, o, obj, cap, vs, rfl, hcap, hg, hv, hh, hcs, hval⟩
      · simp at hc; omega
      · have hl := VRs_length hv
        have hk : k.toNat < es.length := by omega
        refine ⟨rfl, .pointer (some ⟨b, o + k.toNat * sz', none⟩), ?_, ?_⟩
        · simp [Instr.indexAt, asIntOf, run_underlying hu, hc.1, hc.2, run_sizeOf hs, Addr.add_lit]
        · obtain ⟨v, hv1, hv2⟩ := VRs_get hv (List.getElem?_eq_getElem hk)
          have hg1 : es[k.toNat]?.getD AV.undef = es[k.toNat] := by simp [hk]
          simp only [VR]
          refine ⟨b, o + k.toNat * sz', obj, v.cells.toList, by simp, hg, ?_, ?_⟩
          · rw [hg1]
            have hm : (es[k.toNat]).val = true := (List.all_eq_true.1 hval) _ (List.getElem_mem hk)
            exact VR_cells hv2 hm
          · have h1 := holdsAt_drop hh (k.toNat * sz') (by rw [flatV_length hcs, hl]; exact Nat.mul_le_mul_right _ (by omega))
            rw [flatV_drop k.toNat hcs (by omega)] at h1
            have h2 := holdsAt_take h1 sz'
            have h3 : vs.drop k.toNat = v :: vs.drop (k.toNat + 1) := by
              have hk' : k.toNat < vs.length := by omega
              rw [List.drop_eq_getElem_cons hk']
              congr 1
              have := List.getElem?_eq_getElem hk'
              rw [this] at hv1; injection hv1
            rw [h3] at h2
            have hsv : v.cells.size = sz' := hcs v (List.mem_of_getElem? hv1)
            simp only [flatV, List.flatMap_cons] at h2
            rw [List.take_append_of_le_length (by simp [hsv]), List.take_of_length_le (by simp [hsv])] at h2
            exact h2
    · cases hrun
  case slice.int id off len sz' kk k =>
    simp only at hrun
    split at hrun
    · rename_i hsz; subst hsz
      simp [oki] at hrun
      obtain ⟨hc, rfl, rfl⟩ := hrun
      have := VR_int hvi; subst this
      simp only [VR] at hva
      rcases hva with ⟨rfl, _⟩ | ⟨b, base, ext, cap, hi, rfl, hle, hx⟩
      · simp at hc; omega
      · refine ⟨rfl, .pointer (some ⟨b, base + off + k.toNat * sz', none⟩), ?_, ?_⟩
        · simp [Instr.indexAt, asIntOf, run_underlying hu, hc.1, hc.2, run_sizeOf hs, Addr.add_lit]
        · simp only [VR]; exact ⟨b, base, ext, hi, by rw [Nat.add_assoc]⟩
    · cases hrun
end
end Go.AM

namespace Go.AM

/-- Lists of integers of the same kinds: are they the same? -/
def ints : List Value → List Value → Option Bool
  | [], [] => some true
  | .int k a :: xs, .int k' b :: ys => if k = k' then (ints xs ys).map fun r => (a == b) && r else none
  | _, _ => none

theorem ints_length : ∀ {xs ys : List Value} {b : Bool}, ints xs ys = some b → xs.length = ys.length
  | [], [], _, _ => rfl
  | x :: xs, [], b, h => by cases x <;> simp [ints] at h
  | [], y :: ys, b, h => by simp [ints] at h
  | x :: xs, y :: ys, b, h => by
    cases x <;> (try (simp [ints] at h; done)) <;> cases y <;> (try (simp [ints] at h; done))
    simp only [ints] at h
    split at h
    · cases h1 : ints xs ys with
      | none => simp [h1] at h
      | some c => simp [ints_length h1]
    · cases h

theorem ints_split : ∀ {x1 x2 y1 y2 : List Value} {b : Bool}, x1.length = y1.length → ints (x1 ++ x2) (y1 ++ y2) = some b → ∃ b1 b2, ints x1 y1 = some b1 ∧ ints x2 y2 = some b2 ∧ b = (b1 && b2)
  | [], x2, [], y2, b, _, h => ⟨true, b, rfl, by simpa using h, by simp⟩
  | x :: x1, x2, [], y2, b, hl, h => by simp at hl
  | [], x2, y :: y1, y2, b, hl, h => by simp at hl
  | x :: x1, x2, y :: y1, y2, b, hl, h => by
    cases x <;> (try (simp [ints] at h; done)) <;> cases y <;> (try (simp [ints] at h; done))
    simp only [List.cons_append, ints] at h ⊢
    split at h
    · rename_i hk
      cases h1 : ints (x1 ++ x2) (y1 ++ y2) with
      | none => simp [h1] at h
      | some c =>
        obtain ⟨b1, b2, g1, g2, rfl⟩ := ints_split (by simpa using hl) h1
        simp [h1] at h
        simp only [hk, if_true, g1, g2, Option.map_some]
        exact ⟨_, _, rfl, rfl, by rw [← h, Bool.and_assoc]⟩
    · cases h

section
variable {P : Program} {w : World}

/-- A type's value out of its cells. -/
def mkV (P : Program) (t : TypeId) (xs : List Value) : Value :=
  match P.underlying t with
  | some (.struct _) => .agg xs.toArray
  | some (.array _ _) => .agg xs.toArray
  | _ => xs.headD undef

def EqF (P : Program) (D : Nat) (t : TypeId) : Prop :=
  ∀ (w : World) (n : Nat) (xs ys : List Value) (b : Bool), szP P t = some n → xs.length = n → ints xs ys = some b →
    (Op.equalIn D t (mkV P t xs) (mkV P t ys)).run P w = .ok b w

theorem run_part_mk {t : TypeId} {n : Nat} (hn : szP P t = some n) (hf : ∃ d, flatInts P d t = true) (xs : List Value) (off : Nat) (hl : off + n ≤ xs.length) :
    (Go.part t xs.toArray off).run P w = .ok (mkV P t ((xs.drop off).take n)) w := by
  obtain ⟨d, hf⟩ := hf
  cases d with
  | zero => simp [flatInts] at hf
  | succ d =>
    unfold flatInts at hf
    cases hu : P.underlying t with
    | none => simp [hu] at hf
    | some k =>
      cases k <;> simp [hu, hn] at hf
      case int q =>
        subst hf
        have h1 : off < xs.length := by omega
        have e : xs[off]? = some xs[off] := List.getElem?_eq_getElem h1
        have e2 : (xs.drop off).take 1 = [xs[off]] := by
          rw [List.drop_eq_getElem_cons h1]; rfl
        simp only [mkV, hu, e2]
        simp [Go.part, run_isAgg hu, e]
      case struct fs =>
        simp only [mkV, hu]
        simp [Go.part, run_isAgg hu, run_sizeOf hn]
      case array m e =>
        simp only [mkV, hu]
        simp [Go.part, run_isAgg hu, run_sizeOf hn]

theorem contig_le : ∀ {fs : List Field} {o n : Nat}, contig P o fs = some n → o ≤ n
  | [], o, n, h => by simp [contig] at h; omega
  | f :: fs, o, n, h => by
    simp only [contig] at h
    split at h
    · split at h
      · have := contig_le h; omega
      · cases h
    · cases h

theorem eqFields_flat (D : Nat) : ∀ (fs : List Field) (w : World) (o n : Nat) (xs ys : List Value) (b : Bool), contig P o fs = some n →
    (∀ f ∈ fs, f.name ≠ "_" ∧ EqF P D f.type ∧ ∃ d, flatInts P d f.type = true) → xs.length = n → ys.length = n → ints (xs.drop o) (ys.drop o) = some b →
    (Op.eqFields D xs.toArray ys.toArray fs).run P w = .ok b w
  | [], w, o, n, xs, ys, b, hc, hall, hx, hy, hb => by
    simp only [contig] at hc; injection hc with hc
    rw [List.drop_of_length_le (by omega), List.drop_of_length_le (by omega)] at hb
    simp [ints] at hb; subst hb
    simp [Op.eqFields]
  | f :: fs, w, o, n, xs, ys, b, hc, hall, hx, hy, hb => by
    simp only [contig] at hc
    split at hc
    · rename_i ho
      split at hc
      · rename_i s hs
        have hle := contig_le hc
        obtain ⟨hname, hE, hF⟩ := hall f (by simp)
        have ex : xs.drop o = (xs.drop o).take s ++ xs.drop (o + s) := by rw [← List.drop_drop, List.take_append_drop]
        have ey : ys.drop o = (ys.drop o).take s ++ ys.drop (o + s) := by rw [← List.drop_drop, List.take_append_drop]
        rw [ex, ey] at hb
        obtain ⟨b1, b2, g1, g2, rfl⟩ := ints_split (by simp; omega) hb
        have p1 := run_part_mk (w := w) hs hF xs o (by omega)
        have p2 := run_part_mk (w := w) hs hF ys o (by omega)
        have e1 := hE w s _ _ b1 hs (by simp; omega) g1
        have ih := eqFields_flat D fs w (o + s) n xs ys b2 hc (fun g hg => hall g (by simp [hg])) hx hy g2
        simp only [Op.eqFields, hname, ne_eq, not_false_eq_true, if_true, Sem.run_bind, ho, p1, p2, e1, Result.andThen_ok]
        cases b1 <;> simp [ih]
      · cases hc
    · cases hc

theorem eqItems_flat (D : Nat) {e : TypeId} {s : Nat} (hs : szP P e = some s) (hE : EqF P D e) (hF : ∃ d, flatInts P d e = true) (w : World) (xs ys : List Value) :
    ∀ (k i : Nat) (b : Bool), xs.length = (i + k) * s → ys.length = (i + k) * s → ints (xs.drop (i * s)) (ys.drop (i * s)) = some b →
    (Op.eqItems D e s xs.toArray ys.toArray (List.range' i k)).run P w = .ok b w
  | 0, i, b, hx, hy, hb => by
    rw [List.drop_of_length_le (by simp at hx; omega), List.drop_of_length_le (by simp at hy; omega)] at hb
    simp [ints] at hb; subst hb
    simp [Op.eqItems]
  | k + 1, i, b, hx, hy, hb => by
    have e0 : (i + (k + 1)) * s = i * s + s + k * s := by rw [Nat.add_mul, Nat.add_mul]; omega
    have e1 : i * s + s = (i + 1) * s := by rw [Nat.add_mul]; omega
    have ex : xs.drop (i * s) = (xs.drop (i * s)).take s ++ xs.drop (i * s + s) := by rw [← List.drop_drop, List.take_append_drop]
    have ey : ys.drop (i * s) = (ys.drop (i * s)).take s ++ ys.drop (i * s + s) := by rw [← List.drop_drop, List.take_append_drop]
    rw [ex, ey] at hb
    obtain ⟨b1, b2, g1, g2, rfl⟩ := ints_split (by simp; omega) hb
    have p1 := run_part_mk (w := w) hs hF xs (i * s) (by omega)
    have p2 := run_part_mk (w := w) hs hF ys (i * s) (by omega)
    have q1 := hE w s _ _ b1 hs (by simp; omega) g1
    rw [e1] at g2
    have ih := eqItems_flat D hs hE hF w xs ys k (i + 1) b2 (by rw [hx]; congr 1; omega) (by rw [hy]; congr 1; omega) g2
    simp only [List.range'_succ, Op.eqItems, Sem.run_bind, p1, p2, q1, Result.andThen_ok]
    cases b1 <;> simp [ih]

theorem equalIn_flat : ∀ (d : Nat) (t : TypeId) (D : Nat), flatInts P d t = true → d ≤ D → EqF P D t
  | 0, t, D, hf, _ => by simp [flatInts] at hf
  | d + 1, t, 0, hf, hd => by omega
  | d + 1, t, D + 1, hf, hd => by
    intro w n xs ys b hn hl hb
    have hlen := ints_length hb
    unfold flatInts at hf
    cases hu : P.underlying t with
    | none => simp [hu] at hf
    | some k =>
      cases k <;> simp [hu, hn] at hf
      case int q =>
        subst hf
        cases xs with
        | nil => simp at hl
        | cons x xs =>
          cases ys with
          | nil => simp at hlen
          | cons y ys =>
            have hx : xs = [] := List.eq_nil_of_length_eq_zero (by simpa using hl)
            have hy : ys = [] := List.eq_nil_of_length_eq_zero (by simp at hlen; rw [← hlen, hx]; rfl)
            subst hx; subst hy
            cases x <;> (try (simp [ints] at hb; done)) <;> cases y <;> (try (simp [ints] at hb; done))
            simp only [ints] at hb
            split at hb
            · rename_i hk; subst hk
              simp at hb; subst hb
              simp only [mkV, hu, List.headD_cons]
              exact run_equalIn_int w D t _ _ _ _ hu
            · cases hb
      case struct fs =>
        obtain ⟨⟨h1, h2⟩, h3⟩ := hf
        have hfo : P.fieldsOf t = fs := by unfold Program.fieldsOf; rw [hu]
        simp only [mkV, hu]
        rw [run_equalIn_struct w D t _ _ (by rw [hfo]; exact hu) h1, hfo]
        refine eqFields_flat D fs.toList w 0 n xs ys b h3 (fun f hf => ?_) hl (by omega) (by simpa using hb)
        obtain ⟨i, hi, rfl⟩ := Array.getElem_of_mem (Array.mem_toList_iff.1 hf)
        have := h2 i hi
        exact ⟨this.1, equalIn_flat d _ D this.2 (by omega), d, this.2⟩
      case array m e =>
        obtain ⟨h1, h2⟩ := hf
        cases hs : szP P e with
        | none => simp [hs] at h2
        | some s =>
          simp [hs] at h2
          have hi : ∃ i, P.info? e = some i ∧ P.cellsOf e = s := by
            unfold szP at hs
            cases hi : P.info? e with
            | none => simp [hi] at hs
            | some i => simp [hi] at hs; exact ⟨i, rfl, by simp [Program.cellsOf, hi, hs]⟩
          obtain ⟨i, hi, hcs⟩ := hi
          simp only [mkV, hu]
          rw [run_equalIn_array w D _ _ hu hi, hcs, List.range_eq_range']
          refine eqItems_flat D hs (equalIn_flat d e D h1 (by omega)) ⟨d, h1⟩ w xs ys m 0 b (by simp; omega) (by simp; omega) (by simpa using hb)

theorem eqGuardType_flat : ∀ (d D : Nat) (t : TypeId), flatInts P d t = true → d ≤ D → P.eqGuardType D t = false
  | 0, D, t, hf, _ => by simp [flatInts] at hf
  | d + 1, 0, t, hf, hd => by omega
  | d + 1, D + 1, t, hf, hd => by
    unfold flatInts at hf
    unfold Program.eqGuardType
    cases hu : P.underlying t with
    | none => simp [hu] at hf
    | some k =>
      cases hn : szP P t with
      | none => cases k <;> simp [hu, hn] at hf
      | some n =>
        cases k <;> simp [hu, hn] at hf ⊢
        case struct fs =>
          intro i hi _
          have := hf.1.2 i hi
          exact eqGuardType_flat d D _ this.2 (by omega)
        case array m e => exact eqGuardType_flat d D e hf.1 (by omega)
end
end Go.AM

namespace Go.AM
section
variable {P : Program} {w : World} {G : Snap} {L : Lk} {I : Inj} {h : Heap} {n : Nat}

theorem eqInts_ints : ∀ {as bs : List AV} {xs ys : List Value} {r : Bool}, VRs G I as xs → VRs G I bs ys → eqInts as bs = some r → ints xs ys = some r
  | [], [], xs, ys, r, h1, h2, h => by simp [VRs] at h1 h2; subst h1; subst h2; simpa [eqInts, ints] using h
  | a :: as, [], xs, ys, r, h1, h2, h => by cases a <;> simp [eqInts] at h
  | [], b :: bs, xs, ys, r, h1, h2, h => by simp [eqInts] at h
  | a :: as, b :: bs, xs, ys, r, h1, h2, h => by
    cases a <;> (try (simp [eqInts] at h; done)) <;> cases b <;> (try (simp [eqInts] at h; done))
    simp only [VRs] at h1 h2
    obtain ⟨x, xs', rfl, hx, hxs⟩ := h1
    obtain ⟨y, ys', rfl, hy, hys⟩ := h2
    have := VR_int hx; subst this
    have := VR_int hy; subst this
    simp only [eqInts] at h
    simp only [ints]
    split at h
    · rename_i hk; subst hk
      cases h3 : eqInts as bs with
      | none => simp [h3] at h
      | some c =>
        simp [h3] at h
        simp [eqInts_ints hxs hys h3, h]
    · cases h

theorem eqInts_length : ∀ {as bs : List AV} {r : Bool}, eqInts as bs = some r → as.length = bs.length
  | [], [], _, _ => rfl
  | a :: as, [], r, h => by cases a <;> simp [eqInts] at h
  | [], b :: bs, r, h => by simp [eqInts] at h
  | a :: as, b :: bs, r, h => by
    cases a <;> (try (simp [eqInts] at h; done)) <;> cases b <;> (try (simp [eqInts] at h; done))
    simp only [eqInts] at h
    split at h
    · cases h3 : eqInts as bs with
      | none => simp [h3] at h
      | some c => simp [eqInts_length h3]
    · cases h

theorem VR_bool {b : Bool} {c : Value} (hv : VR G I (.bool b) c) : c = .bool b := by simpa [VR] using hv
theorem VR_str {b : ByteArray} {c : Value} (hv : VR G I (.str b) c) : c = .string b := by simpa [VR] using hv

theorem depth_ge (P : Program) : 4 ≤ P.depth := by
  unfold Program.depth Made.depth; omega

theorem mkV_agg {t : TypeId} {ag : EqK} {m : Nat} (hk : eqK P t = some (.g m)) (xs : List Value) : mkV P t xs = .agg xs.toArray ∧ flatInts P 4 t = true ∧ szP P t = some m := by
  unfold eqK at hk
  unfold mkV
  cases hu : P.underlying t with
  | none => simp [hu] at hk
  | some d =>
    cases d <;> simp [hu] at hk ⊢
    case struct => exact hk
    case array => exact hk

/-- '==' of the model at related operands. -/
theorem equal_sound {t : TypeId} {ag : EqK} (hk : eqK P t = some ag) {a b : AV} {ca cb : Value} {r : Bool} (ha : VR G I a ca) (hb : VR G I b cb)
    (hr : AV.eqv ag a b = some r) : (Op.equal t ca cb).run P w = .ok r w := by
  cases ag with
  | b =>
    have hu : P.underlying t = some .bool := by
      unfold eqK at hk
      cases hu : P.underlying t with
      | none => simp [hu] at hk
      | some d => cases d <;> simp [hu] at hk ⊢
    simp only [AV.eqv] at hr
    cases a <;> (try (simp at hr; done)) <;> cases b <;> (try (simp at hr; done))
    simp at hr; subst hr
    have := VR_bool ha; subst this
    have := VR_bool hb; subst this
    exact run_equalIn_bool w 9999 t _ _ hu
  | i =>
    have hu : ∃ q, P.underlying t = some (.int q) := by
      unfold eqK at hk
      cases hu : P.underlying t with
      | none => simp [hu] at hk
      | some d => cases d <;> simp [hu] at hk ⊢
    obtain ⟨q, hu⟩ := hu
    simp only [AV.eqv] at hr
    cases a <;> (try (simp at hr; done)) <;> cases b <;> (try (simp at hr; done))
    simp only at hr
    split at hr
    · rename_i hj; subst hj
      injection hr with hr; subst hr
      have := VR_int ha; subst this
      have := VR_int hb; subst this
      exact run_equalIn_int w 9999 t _ q _ _ hu
    · cases hr
  | s =>
    have hu : P.underlying t = some .string := by
      unfold eqK at hk
      cases hu : P.underlying t with
      | none => simp [hu] at hk
      | some d => cases d <;> simp [hu] at hk ⊢
    simp only [AV.eqv] at hr
    cases a <;> (try (simp at hr; done)) <;> cases b <;> (try (simp at hr; done))
    simp only [Option.some.injEq] at hr; subst hr
    have := VR_str ha; subst this
    have := VR_str hb; subst this
    rw [beq_toListBytes]
    exact run_equalIn_string w 9999 t _ _ hu
  | g m =>
    simp only [AV.eqv] at hr
    cases a <;> (try (simp at hr; done)) <;> cases b <;> (try (simp at hr; done))
    simp only at hr
    split at hr
    · rename_i hl
      simp only [VR] at ha hb
      obtain ⟨xs, rfl, hx⟩ := ha
      obtain ⟨ys, rfl, hy⟩ := hb
      have h1 := mkV_agg (ag := .g m) hk xs
      have h2 := mkV_agg (ag := .g m) hk ys
      have h3 := equalIn_flat 4 t 10000 h1.2.1 (by omega) w m xs ys r h1.2.2 (by rw [VRs_length hx]; exact hl) (eqInts_ints hx hy hr)
      rw [h1.1, h2.1] at h3
      exact h3
    · cases hr

theorem eqGuard_sound {t : TypeId} {ag : EqK} (hk : eqK P t = some ag) {a b : AV} {ca cb : Value} {r : Bool} (ha : VR G I a ca) (hb : VR G I b cb)
    (hr : AV.eqv ag a b = some r) (op : BinOp) (x y : Operand) : (eqGuard op t x y ca cb).run P w = .ok () w := by
  cases ag with
  | b =>
    simp only [AV.eqv] at hr
    cases a <;> (try (simp at hr; done)) <;> cases b <;> (try (simp at hr; done))
    have := VR_bool ha; subst this
    have := VR_bool hb; subst this
    cases op <;> simp [eqGuard]
  | i =>
    simp only [AV.eqv] at hr
    cases a <;> (try (simp at hr; done)) <;> cases b <;> (try (simp at hr; done))
    have := VR_int ha; subst this
    have := VR_int hb; subst this
    cases op <;> simp [eqGuard]
  | s =>
    simp only [AV.eqv] at hr
    cases a <;> (try (simp at hr; done)) <;> cases b <;> (try (simp at hr; done))
    have := VR_str ha; subst this
    have := VR_str hb; subst this
    cases op <;> simp [eqGuard]
  | g m =>
    simp only [AV.eqv] at hr
    cases a <;> (try (simp at hr; done)) <;> cases b <;> (try (simp at hr; done))
    simp only [VR] at ha hb
    obtain ⟨xs, rfl, hx⟩ := ha
    obtain ⟨ys, rfl, hy⟩ := hb
    exact run_eqGuard_agg w op t x y _ _ (eqGuardType_flat 4 P.depth t (mkV_agg (ag := .g m) hk xs).2.1 (depth_ge P))

theorem eq_sound {t : TypeId} {ag : EqK} (hk : eqK P t = some ag) {a b : AV} {ca cb : Value} {r neg : Bool} (ha : VR G I a ca) (hb : VR G I b cb)
    (hr : AV.eqv ag a b = some r) (x y : Operand) :
    (do eqGuard (if neg then .neq else .eql) t x y ca cb; binOp (if neg then .neq else .eql) t ca cb : Sem Value).run P w = .ok (.bool (if neg then !r else r)) w := by
  have hg := eqGuard_sound (w := w) hk ha hb hr (if neg then .neq else .eql) x y
  simp only [Sem.run_bind, hg, Result.andThen_ok]
  have he := equal_sound (w := w) hk ha hb hr
  cases ag with
  | b =>
    simp only [AV.eqv] at hr
    cases a <;> (try (simp at hr; done)) <;> cases b <;> (try (simp at hr; done))
    have := VR_bool ha; subst this
    have := VR_bool hb; subst this
    cases neg <;> simp [binOp, he]
  | i =>
    simp only [AV.eqv] at hr
    cases a <;> (try (simp at hr; done)) <;> cases b <;> (try (simp at hr; done))
    have := VR_int ha; subst this
    have := VR_int hb; subst this
    simp only at hr
    split at hr
    · rename_i hj; subst hj
      injection hr with hr; subst hr
      cases neg <;> simp [binOp, Op.intCmp]
      rfl
    · cases hr
  | s =>
    simp only [AV.eqv] at hr
    cases a <;> (try (simp at hr; done)) <;> cases b <;> (try (simp at hr; done))
    simp only [Option.some.injEq] at hr; subst hr
    have := VR_str ha; subst this
    have := VR_str hb; subst this
    cases neg <;> simp [binOp, Op.stringOp, beq_toListBytes]
  | g m =>
    simp only [AV.eqv] at hr
    cases a <;> (try (simp at hr; done)) <;> cases b <;> (try (simp at hr; done))
    simp only [VR] at ha hb
    obtain ⟨xs, rfl, hx⟩ := ha
    obtain ⟨ys, rfl, hy⟩ := hb
    cases neg <;> simp [binOp, he]
end
end Go.AM

namespace Go.AM
section
variable {P : Program} {w : World} {G : Snap} {L : Lk} {I : Inj} {h : Heap} {n : Nat}

theorem VRint {k : IntKind} {m : Int} : VR G I (.int k m) (.int k m) := by simp [VR]
theorem VRbool {b : Bool} : VR G I (.bool b) (.bool b) := by simp [VR]
theorem VRstr {b : ByteArray} : VR G I (.str b) (.string b) := by simp [VR]

theorem bin_sound {op : BinOp} {t : TypeId} {a b v : AV} {ca cb : Value} {u : Upd} (ha : VR G I a ca) (hb : VR G I b cb) (hop : op ≠ .eql ∧ op ≠ .neq) (x y : Operand)
    (hr : binA op a b = some (true, v, u)) : u = [] ∧ ∃ cv, (do eqGuard op t x y ca cb; binOp op t ca cb : Sem Value).run P w = .ok cv w ∧ VR G I v cv := by
  have hg : (eqGuard op t x y ca cb).run P w = .ok () w := by
    cases op <;> simp [eqGuard] <;> simp_all
  simp only [Sem.run_bind, hg, Result.andThen_ok]
  unfold binA at hr
  cases a <;> (try (simp at hr; done)) <;> cases b <;> (try (simp at hr; done))
  rename_i k p k' q
  have := VR_int ha; subst this
  have := VR_int hb; subst this
  cases op <;> simp only at hr <;> (try (exact absurd rfl hop.1)) <;> (try (exact absurd rfl hop.2))
  case shl =>
    split at hr
    · simp [oki] at hr
      obtain ⟨h0, rfl, rfl⟩ := hr
      refine ⟨rfl, _, ?_, VRint⟩
      simp [binOp, Op.shift, Int.not_lt.2 h0]
    · cases hr
  case shr =>
    simp [oki] at hr
    obtain ⟨h0, rfl, rfl⟩ := hr
    refine ⟨rfl, _, ?_, VRint⟩
    simp [binOp, Op.shift, Int.not_lt.2 h0]
  all_goals
    split at hr
    · rename_i hk; subst hk
      simp [oki, okv] at hr
      first
        | (obtain ⟨h0, rfl, rfl⟩ := hr
           refine ⟨rfl, _, ?_, VRint⟩
           simp [binOp, Op.intDiv, h0]
           done)
        | (obtain ⟨rfl, rfl⟩ := hr
           refine ⟨rfl, _, ?_, VRint⟩
           simp [binOp, Op.intArith, Op.intBits, Op.intCmp]
           done)
        | (obtain ⟨rfl, rfl⟩ := hr
           refine ⟨rfl, _, ?_, VRbool⟩
           simp [binOp, Op.intArith, Op.intBits, Op.intCmp]
           done)
    · cases hr

theorem un_sound {op : UnOp} {a v : AV} {ca : Value} {u : Upd} (ha : VR G I a ca)
    (hr : (match (generalizing := false) op, a with
      | .neg, .int k a => okv (.int k (k.wrap (0 - a)))
      | .not, .bool b => okv (.bool (!b))
      | _, _ => (none : Res)) = some (true, v, u)) : u = [] ∧ ∃ cv, (Op.unary op ca).run P w = .ok cv w ∧ VR G I v cv := by
  cases op <;> cases a <;> (try (simp at hr; done))
  case neg.int k m =>
    simp [okv] at hr
    obtain ⟨rfl, rfl⟩ := hr
    have := VR_int ha; subst this
    exact ⟨rfl, _, by simp [Op.unary, Op.intArith], VRint⟩
  case not.bool b =>
    simp [okv] at hr
    obtain ⟨rfl, rfl⟩ := hr
    have := VR_bool ha; subst this
    exact ⟨rfl, _, by simp [Op.unary], VRbool⟩

theorem conv_sound {s d : TypeId} {e : TypeDesc} {k : IntKind} (hs : P.underlying s = some e) (hd : P.underlying d = some (.int k)) {a v : AV} {ca : Value} {u : Upd} (ha : VR G I a ca)
    (hr : (match (generalizing := false) a with | .int _ a => okv (.int k (k.wrap a)) | _ => (none : Res)) = some (true, v, u)) : u = [] ∧ ∃ cv, (convert s d ca).run P w = .ok cv w ∧ VR G I v cv := by
  cases a <;> (try (simp at hr; done))
  rename_i q m
  simp [okv] at hr
  obtain ⟨rfl, rfl⟩ := hr
  have := VR_int ha; subst this
  refine ⟨rfl, .int k (k.wrap m), ?_, by simp only [VR]⟩
  simp [convert, run_underlying hs, run_underlying hd, Conv.intToInt]

theorem ixA_sound {t e : TypeId} {len s : Nat} {ag : Option Nat} (hu : P.underlying t = some (.array len e)) (hs : szP P e = some s) (hag : agP P e = some ag) {a ai v : AV} {ca ci : Value} {u : Upd}
    (hva : VR G I a ca) (hvi : VR G I ai ci)
    (hrun : (match (generalizing := false) a, ai with
      | .agg cs, .int _ k => match part ag cs (k.toNat * s) with
        | some v => oki (decide (0 ≤ k ∧ k < len)) v
        | none => none
      | _, _ => (none : Res)) = some (true, v, u)) : u = [] ∧ ∃ cv, (Instr.index t ca ci).run P w = .ok cv w ∧ VR G I v cv := by
  cases a <;> (try (simp at hrun; done)) <;> cases ai <;> (try (simp at hrun; done))
  rename_i cs q k
  simp only at hrun
  cases hp : part ag cs (k.toNat * s) with
  | none => simp [hp] at hrun
  | some v' =>
    simp [hp, oki] at hrun
    obtain ⟨hc, rfl, rfl⟩ := hrun
    have := VR_int hvi; subst this
    simp only [VR] at hva
    obtain ⟨vs, rfl, hv⟩ := hva
    obtain ⟨cv, h1, h2⟩ := part_sound (w := w) hag hv hp
    exact ⟨rfl, cv, by simp [Instr.index, asIntOf, run_underlying hu, hc.1, hc.2, run_sizeOf hs, h1], h2⟩

theorem ixS_sound {t : TypeId} (hu : P.underlying t = some .string) {a ai v : AV} {ca ci : Value} {u : Upd} (hva : VR G I a ca) (hvi : VR G I ai ci)
    (hrun : (match (generalizing := false) a, ai with
      | .str s, .int _ k => oki (decide (0 ≤ k ∧ k < s.size)) (.int .u8 ((s.data.toList.getD k.toNat 0).toNat))
      | _, _ => (none : Res)) = some (true, v, u)) : u = [] ∧ ∃ cv, (Instr.index t ca ci).run P w = .ok cv w ∧ VR G I v cv := by
  cases a <;> (try (simp at hrun; done)) <;> cases ai <;> (try (simp at hrun; done))
  rename_i s q k
  simp [oki] at hrun
  obtain ⟨hc, rfl, rfl⟩ := hrun
  have := VR_int hvi; subst this
  have := VR_str hva; subst this
  have hk : k.toNat < s.size := by omega
  have e : s[k.toNat]? = some (s.data.toList[k.toNat]?.getD 0) := by
    have h2 : k.toNat < s.data.size := hk
    rw [getElem?_pos s k.toNat hk]
    have e2 : s.data.toList[k.toNat]? = some s.data[k.toNat] := by simp [h2]
    rw [e2]; rfl
  refine ⟨rfl, _, ?_, VRint⟩
  simp at e
  simp [Instr.index, asIntOf, run_underlying hu, hc.1, e]

theorem nilck_sound {a v : AV} {ca : Value} {u : Upd} (hva : VR G I a ca)
    (hrun : (match (generalizing := false) a with
      | .ptr id off => okv (.ptr id off)
      | .vptr cs off => okv (.vptr cs off)
      | .fn f c => okv (.fn f c)
      | _ => (none : Res)) = some (true, v, u)) : u = [] ∧ v = a ∧ ∀ (o : Oper) (x : Operand) (ev : Operand → Value), o.op = .nilCheck x → ev x = ca → (execOp ev o).run P w = .ok (.value ca) w := by
  cases a <;> (try (simp at hrun; done))
  case ptr id off =>
    simp [okv] at hrun
    obtain ⟨rfl, rfl⟩ := hrun
    simp only [VR] at hva
    obtain ⟨b, base, ext, hi, rfl⟩ := hva
    refine ⟨rfl, rfl, fun o x ev ho hx => ?_⟩
    unfold execOp; simp [ho, hx]
  case vptr cs off =>
    simp [okv] at hrun
    obtain ⟨rfl, rfl⟩ := hrun
    simp only [VR] at hva
    obtain ⟨b, o', obj, vs, rfl, _⟩ := hva
    refine ⟨rfl, rfl, fun o x ev ho hx => ?_⟩
    unfold execOp; simp [ho, hx]
  case fn f c =>
    simp [okv] at hrun
    obtain ⟨rfl, rfl⟩ := hrun
    simp only [VR] at hva
    obtain ⟨vs, rfl, _⟩ := hva
    refine ⟨rfl, rfl, fun o x ev ho hx => ?_⟩
    unfold execOp; simp [ho, hx]

theorem ext_sound {a v : AV} {ca : Value} {u : Upd} {i : Nat} (hva : VR G I a ca)
    (hrun : (match (generalizing := false) a with | .tup vs => (match vs[i]? with | some v => okv v | none => none) | _ => (none : Res)) = some (true, v, u)) :
    u = [] ∧ ∃ cv, (Instr.extract ca i).run P w = .ok cv w ∧ VR G I v cv := by
  cases a <;> (try (simp at hrun; done))
  rename_i vs
  simp only at hrun
  cases hi : vs[i]? with
  | none => simp [hi] at hrun
  | some v' =>
    simp [hi, okv] at hrun
    obtain ⟨rfl, rfl⟩ := hrun
    simp only [VR] at hva
    obtain ⟨cs, rfl, hv⟩ := hva
    obtain ⟨cv, h1, h2⟩ := VRs_get hv hi
    exact ⟨rfl, cv, by simp [Instr.extract, h1], h2⟩

theorem mm_sound {mx : Bool} {a b v : AV} {ca cb : Value} {u : Upd} (ha : VR G I a ca) (hb : VR G I b cb) (ts : Array TypeId) (ty : TypeId)
    (hr : (match (generalizing := false) a, b with
      | .int k a, .int k' b => if k = k' then okv (.int k (if mx then (if b > a then b else a) else (if b < a then b else a))) else none
      | _, _ => (none : Res)) = some (true, v, u)) :
    u = [] ∧ ∃ cv, (if mx then Builtin.max_ ts ty #[ca, cb] else Builtin.min_ ts ty #[ca, cb]).run P w = .ok cv w ∧ VR G I v cv := by
  cases a <;> (try (simp at hr; done)) <;> cases b <;> (try (simp at hr; done))
  rename_i k p k' q
  have := VR_int ha; subst this
  have := VR_int hb; subst this
  simp only at hr
  split at hr
  · rename_i hk; subst hk
    simp [okv] at hr
    obtain ⟨rfl, rfl⟩ := hr
    refine ⟨rfl, _, ?_, VRint⟩
    cases mx <;> simp [Builtin.max_, Builtin.min_, Builtin.max2, Builtin.min2, List.foldlM]
  · cases hr

theorem len_sound (hs : St G L I h w) {t : TypeId} {d : TypeDesc} {kk : Nat} (hu : P.underlying t = some d)
    (hd : (kk = 0 ∧ d = .string) ∨ (kk = 1 ∧ ∃ e, d = .slice e) ∨ (kk = 2 ∧ ∃ k e, d = .map k e)) {a v : AV} {ca : Value} {u : Upd} (ha : VR G I a ca) (ty : TypeId)
    (hr : (match (generalizing := false) kk, a with
      | 0, .str s => okv (.int .i64 s.size)
      | 1, .nils => okv (.int .i64 0)
      | 1, .emp => okv (.int .i64 0)
      | 1, .lit _ es => okv (.int .i64 es.length)
      | 1, .slice _ _ ln _ => okv (.int .i64 ln)
      | 2, .nilmap => okv (.int .i64 0)
      | 2, .mapr id => match h.at id with
        | some (.map es) => okv (.int .i64 es.length)
        | _ => none
      | _, _ => (none : Res)) = some (true, v, u)) : u = [] ∧ ∃ cv, (Builtin.len_ #[t] ty #[ca]).run P w = .ok cv w ∧ VR G I v cv := by
  rcases hd with ⟨rfl, rfl⟩ | ⟨rfl, e, rfl⟩ | ⟨rfl, k, e, rfl⟩
  · cases a <;> (try (simp at hr; done))
    simp [okv] at hr; obtain ⟨rfl, rfl⟩ := hr
    have := VR_str ha; subst this
    exact ⟨rfl, _, by simp [Builtin.len_, run_underlying hu, goInt], VRint⟩
  · cases a <;> (try (simp at hr; done))
    case nils =>
      simp [okv] at hr; obtain ⟨rfl, rfl⟩ := hr
      simp only [VR] at ha; subst ha
      exact ⟨rfl, _, by simp [Builtin.len_, run_underlying hu, goInt], VRint⟩
    case emp =>
      simp [okv] at hr; obtain ⟨rfl, rfl⟩ := hr
      simp only [VR] at ha; obtain ⟨a', rfl⟩ := ha
      exact ⟨rfl, _, by simp [Builtin.len_, run_underlying hu, goInt], VRint⟩
    case lit sz es =>
      simp [okv] at hr; obtain ⟨rfl, rfl⟩ := hr
      simp only [VR] at ha
      rcases ha with ⟨rfl, a', cap, rfl⟩ | ⟨b, o, obj, cap, vs, rfl, _⟩
      · exact ⟨rfl, _, by simp [Builtin.len_, run_underlying hu, goInt], VRint⟩
      · exact ⟨rfl, _, by simp [Builtin.len_, run_underlying hu, goInt], VRint⟩
    case slice id off len sz =>
      simp [okv] at hr; obtain ⟨rfl, rfl⟩ := hr
      simp only [VR] at ha
      rcases ha with ⟨rfl, a', rfl⟩ | ⟨b, base, ext, cap, _, rfl, _⟩
      · exact ⟨rfl, _, by simp [Builtin.len_, run_underlying hu, goInt], VRint⟩
      · exact ⟨rfl, _, by simp [Builtin.len_, run_underlying hu, goInt], VRint⟩
  · cases a <;> (try (simp at hr; done))
    case nilmap =>
      simp [okv] at hr; obtain ⟨rfl, rfl⟩ := hr
      simp only [VR] at ha; subst ha
      exact ⟨rfl, _, by simp [Builtin.len_, run_underlying hu, goInt], VRint⟩
    case mapr id =>
      simp only at hr
      cases hat : h.at id with
      | none => simp [hat] at hr
      | some bk =>
        cases bk with
        | cells cs => simp [hat] at hr
        | map es =>
          simp [hat, okv] at hr; obtain ⟨rfl, rfl⟩ := hr
          simp only [VR] at ha; obtain ⟨b, base, ext, hi, rfl⟩ := ha
          obtain ⟨o, g2, g3, g4, g5⟩ := hs.ownOf hi hat
          · obtain ⟨mes, clock, rfl, g6, g7⟩ := g5
            have := VRs_length g6
            simp at this
            exact ⟨rfl, .int .i64 mes.size, by simp [Builtin.len_, run_underlying hu, goInt, getObj, Sem.run, g4], by rw [this]; exact VRint⟩
end
end Go.AM

namespace Go.AM
section
variable {P : Program} {w : World} {G : Snap} {L : Lk} {I : Inj} {h : Heap} {n : Nat}

theorem VRs_mem_sz {vs : List Value} {sz i : Nat} (hv : ∀ v ∈ vs, v.cells.size = sz) : ∀ v ∈ vs.drop i, v.cells.size = sz := fun v hm => hv v (List.mem_of_mem_drop hm)

theorem flatV_take {s : Nat} : ∀ {vs : List Value} (i : Nat), (∀ v ∈ vs, v.cells.size = s) → i ≤ vs.length → (flatV vs).take (i * s) = flatV (vs.take i)
  | vs, 0, _, _ => by simp [flatV]
  | [], i + 1, _, hi => by simp at hi
  | v :: vs, i + 1, hv, hi => by
    have ih := flatV_take (vs := vs) i (fun x hx => hv x (by simp [hx])) (by simpa using hi)
    have h1 := hv v (by simp)
    simp only [flatV, List.flatMap_cons, List.take_succ_cons] at ih ⊢
    rw [← ih, Nat.add_mul, Nat.one_mul]
    have : v.cells.toList.length = s := by simpa using h1
    rw [Nat.add_comm, ← this, List.take_length_add_append]

/-- A part of an immutable slice. -/
theorem VR_lit_slice {sz : Nat} {es : List AV} {c : Value} (hv : VR G I (.lit sz es) c) {l g : Nat} (hl : l ≤ g) (hg : g ≤ es.length) :
    ∃ a len cap, c = .slice a len cap ∧ len = es.length ∧ len ≤ cap ∧ VR G I (.lit sz ((es.drop l).take (g - l))) (.slice (if cap = l then a else a.map (·.add (l * sz))) (g - l) (cap - l)) := by
  simp only [VR] at hv
  rcases hv with ⟨rfl, a, cap, rfl⟩ | ⟨b, o, obj, cap, vs, rfl, hcap, hgb, hvs, hh, hcs, hval⟩
  · simp at hg; subst hg
    have : l = 0 := by omega
    subst this
    refine ⟨a, 0, cap, rfl, rfl, Nat.zero_le _, ?_⟩
    simp only [VR]
    exact .inl ⟨by simp, _, _, rfl⟩
  · refine ⟨_, _, cap, rfl, rfl, hcap, ?_⟩
    simp only [VR]
    have hlen : ((es.drop l).take (g - l)).length = g - l := by simp; omega
    by_cases hc : cap = l
    · have : g - l = 0 := by omega
      left
      refine ⟨by rw [this]; simp, some ⟨b, o, none⟩, cap - l, by simp [hc, this]⟩
    · right
      have hvl := VRs_length hvs
      refine ⟨b, o + l * sz, obj, cap - l, (vs.drop l).take (g - l), ?_, by rw [hlen]; omega, hgb, VRs_take (VRs_drop hvs l) _, ?_, ?_, ?_⟩
      · simp [hc, Addr.add_lit, hlen]
      · rw [← flatV_take (g - l) (VRs_mem_sz hcs) (by simp; omega), ← flatV_drop l hcs (by omega)]
        exact holdsAt_take (holdsAt_drop hh (l * sz) (by rw [flatV_length hcs, hvl]; exact Nat.mul_le_mul_right _ (by omega))) _
      · exact fun v hm => hcs v (List.mem_of_mem_drop (List.mem_of_mem_take hm))
      · rw [List.all_eq_true] at hval ⊢
        exact fun x hx => hval x (List.mem_of_mem_drop (List.mem_of_mem_take hx))

theorem run_sliceBound {k : IntKind} {i : Int} {y : Nat} {code : BoundsCode} (h0 : 0 ≤ i) (h1 : i ≤ y) : (Instr.sliceBound (.int k i) y code).run P w = .ok i.toNat w := by
  simp [Instr.sliceBound, asIntOf, h0, h1]

/-- `x[lo:hi]` of a slice's value. -/
theorem run_slice_two {t e : TypeId} {s : Nat} (hu : P.underlying t = some (.slice e)) (hs : szP P e = some s) {a : Option Addr} {len cap : Nat} {lo hi : Option Value} {l g : Int} {kl kg : IntKind}
    (hl : lo.getD (.int .i64 0) = .int kl l) (hh : hi.getD (.int .i64 (len : Int)) = .int kg g) (h0 : 0 ≤ l) (h1 : l ≤ g) (h2 : g ≤ cap) (hlc : len ≤ cap) :
    (Instr.sliceAt t (.slice a len cap) lo hi none).run P w = .ok (.slice (if cap = l.toNat then a else a.map (·.add (l.toNat * s))) (g.toNat - l.toNat) (cap - l.toNat)) w := by
  have hg : (g.toNat : Int) = g := Int.toNat_of_nonneg (by omega)
  have hb : (Instr.sliceBounds true len cap lo hi none).run P w = .ok (l.toNat, g.toNat, cap) w := by
    unfold Instr.sliceBounds
    cases lo with
    | none =>
      simp at hl
      obtain ⟨_, rfl⟩ := hl
      cases hi with
      | none =>
        simp at hh
        obtain ⟨_, rfl⟩ := hh
        simp
      | some v =>
        simp at hh
        subst hh
        simp [run_sliceBound (P := P) (w := w) (k := kg) (code := .sliceAcap) (by omega : (0 : Int) ≤ g) h2]
    | some lv =>
      simp at hl
      subst hl
      cases hi with
      | none =>
        simp at hh
        obtain ⟨_, rfl⟩ := hh
        simp [run_sliceBound (P := P) (w := w) (k := kl) (y := len) (code := .sliceB) h0 h1]
      | some v =>
        simp at hh
        subst hh
        simp [run_sliceBound (P := P) (w := w) (k := kg) (code := .sliceAcap) (by omega : (0 : Int) ≤ g) h2,
          run_sliceBound (P := P) (w := w) (k := kl) (y := g.toNat) (code := .sliceB) h0 (by omega)]
  simp [Instr.sliceAt, Instr.slice, run_underlying hu, hb, run_sizeOf hs]

theorem ROo_sound {env : List AV} {a : Act} (he : EnvR G I env a.tmps) {x : Option Operand} {r : Option RO} (hr : cROo x = some r) {d : AV} {dv : Value} (hd : VR G I d dv) :
    VR G I ((r.map (RO.ev env)).getD d) ((x.map a.eval).getD dv) := by
  cases x with
  | none => simp [cROo] at hr; subst hr; simpa using hd
  | some x =>
    simp only [cROo] at hr
    cases h1 : cRO x with
    | none => simp [h1] at hr
    | some r' => simp [h1] at hr; subst hr; simpa using ev_sound he h1

theorem isNone_ROo {x : Option Operand} {r : Option RO} (hr : cROo x = some r) : x.isNone = r.isNone := by
  cases x with
  | none => simp [cROo] at hr; subst hr; rfl
  | some x =>
    simp only [cROo] at hr
    cases h1 : cRO x with
    | none => simp [h1] at hr
    | some r' => simp [h1] at hr; subst hr; rfl

theorem slc_sound {env : List AV} {a : Act} (he : EnvR G I env a.tmps) {t e : TypeId} {sz : Nat} (hu : P.underlying t = some (.slice e)) (hs : szP P e = some sz)
    {lo hi : Option Operand} {rlo rhi : Option RO} (hlo : cROo lo = some rlo) (hhi : cROo hi = some rhi) {x : Operand} {rx : RO} (hx : cRO x = some rx)
    {v : AV} {u : Upd} (hrun : (ROp.slc sz rx rlo rhi).run env h n = some (true, v, u)) :
    u = [] ∧ ∃ cv, (Instr.sliceAt t (a.eval x) (lo.map a.eval) (hi.map a.eval) none).run P w = .ok cv w ∧ VR G I v cv := by
  have hvx := ev_sound he hx
  simp only [ROp.run] at hrun
  have hl := ROo_sound he hlo (d := .int .i64 0) (dv := .int .i64 0) VRint
  split at hrun
  · rename_i sz' es hxe
    rw [hxe] at hvx
    split at hrun
    · rename_i hz; subst hz
      split at hrun
      · rename_i kl l kg g q1 q2
        simp [oki] at hrun
        obtain ⟨⟨c1, c2, c3⟩, rfl, rfl⟩ := hrun
        have hh := ROo_sound he hhi (d := .int .i64 es.length) (dv := .int .i64 es.length) VRint
        rw [q1] at hl; rw [q2] at hh
        obtain ⟨aa, len, cap, hc, hlen, hcap, hv⟩ := VR_lit_slice hvx (l := l.toNat) (g := g.toNat) (by omega) (by omega)
        refine ⟨rfl, _, ?_, hv⟩
        rw [hc]
        subst hlen
        exact run_slice_two hu hs (VR_int hl) (VR_int hh) c1 c2 (by omega) hcap
      · cases hrun
    · cases hrun
  · rename_i id off ln sz' hxe
    rw [hxe] at hvx
    split at hrun
    · rename_i hz; subst hz
      split at hrun
      · rename_i kl l kg g q1 q2
        simp [oki] at hrun
        obtain ⟨⟨c1, c2, c3⟩, rfl, rfl⟩ := hrun
        have hh := ROo_sound he hhi (d := .int .i64 ln) (dv := .int .i64 ln) VRint
        rw [q1] at hl; rw [q2] at hh
        simp only [VR] at hvx
        rcases hvx with ⟨rfl, aa, hc⟩ | ⟨b, base, ext, cap, hi', hc, hle, hx'⟩
        · have l0 : l = 0 := by omega
          have g0 : g = 0 := by omega
          subst l0; subst g0
          refine ⟨rfl, .slice aa 0 0, ?_, by simp only [VR]; exact .inl ⟨by simp, _, rfl⟩⟩
          rw [hc]
          have := run_slice_two (w := w) hu hs (a := aa) (len := 0) (cap := 0) (VR_int hl) (VR_int hh) (by omega) (by omega) (by omega) (by omega)
          simpa using this
        · rw [hc]
          refine ⟨rfl, _, run_slice_two hu hs (VR_int hl) (VR_int hh) c1 c2 (by omega) hle, ?_⟩
          simp only [VR]
          by_cases hcl : cap = l.toNat
          · left
            refine ⟨by omega, some ⟨b, base + off, none⟩, ?_⟩
            rw [if_pos hcl]
            have e1 : g.toNat - l.toNat = 0 := by omega
            have e2 : cap - l.toNat = 0 := by omega
            rw [e1, e2]
          · right
            refine ⟨b, base, ext, cap - l.toNat, hi', ?_, by omega, ?_⟩
            · rw [if_neg hcl]
              simp [Addr.add_lit, Nat.add_assoc]
            · have e3 : l.toNat * sz' + (cap - l.toNat) * sz' = cap * sz' := by rw [← Nat.add_mul]; congr 1; omega
              omega
      · cases hrun
    · cases hrun
  · rename_i hxe
    rw [hxe] at hvx
    split at hrun
    · rename_i kl l kg g q1 q2
      simp [oki] at hrun
      obtain ⟨⟨rfl, rfl⟩, rfl, rfl⟩ := hrun
      have hh := ROo_sound he hhi (d := .int .i64 0) (dv := .int .i64 0) VRint
      rw [q1] at hl; rw [q2] at hh
      simp only [VR] at hvx
      refine ⟨rfl, .slice none 0 0, ?_, by simp [VR]⟩
      rw [hvx]
      have := run_slice_two (w := w) hu hs (a := none) (len := 0) (cap := 0) (VR_int hl) (VR_int hh) (by omega) (by omega) (by omega) (by omega)
      simpa using this
    · cases hrun
  · cases hrun

theorem slcS_sound {env : List AV} {a : Act} (he : EnvR G I env a.tmps) {t : TypeId} (hu : P.underlying t = some .string)
    {lo hi : Option Operand} {rlo rhi : Option RO} (hlo : cROo lo = some rlo) (hhi : cROo hi = some rhi) {x : Operand} {rx : RO} (hx : cRO x = some rx)
    {v : AV} {u : Upd} (hrun : (ROp.slcS rx rlo rhi).run env h n = some (true, v, u)) :
    u = [] ∧ ∃ cv, (Instr.sliceAt t (a.eval x) (lo.map a.eval) (hi.map a.eval) none).run P w = .ok cv w ∧ VR G I v cv := by
  have hvx := ev_sound he hx
  simp only [ROp.run] at hrun
  have hl := ROo_sound he hlo (d := .int .i64 0) (dv := .int .i64 0) VRint
  split at hrun
  · rename_i s hxe
    rw [hxe] at hvx
    split at hrun
    · rename_i kl l kg g q1 q2
      simp [oki] at hrun
      obtain ⟨⟨c1, c2, c3⟩, rfl, rfl⟩ := hrun
      have hh := ROo_sound he hhi (d := .int .i64 s.size) (dv := .int .i64 s.size) VRint
      rw [q1] at hl; rw [q2] at hh
      have hxs := VR_str hvx
      have hl' := VR_int hl
      have hh' := VR_int hh
      refine ⟨rfl, _, ?_, VRstr⟩
      rw [hxs]
      have hb : (Instr.sliceBounds false s.size s.size (lo.map a.eval) (hi.map a.eval) none).run P w = .ok (l.toNat, g.toNat, s.size) w := by
        unfold Instr.sliceBounds
        cases hlo' : lo.map a.eval with
        | none =>
          rw [hlo'] at hl'
          simp at hl'
          obtain ⟨_, rfl⟩ := hl'
          cases hhi' : hi.map a.eval with
          | none =>
            rw [hhi'] at hh'
            simp at hh'
            obtain ⟨_, rfl⟩ := hh'
            simp
          | some v =>
            rw [hhi'] at hh'
            simp at hh'
            subst hh'
            simp [run_sliceBound (P := P) (w := w) (k := kg) (code := .sliceAlen) (by omega : (0 : Int) ≤ g) c3]
        | some lv =>
          rw [hlo'] at hl'
          simp at hl'
          subst hl'
          cases hhi' : hi.map a.eval with
          | none =>
            rw [hhi'] at hh'
            simp at hh'
            obtain ⟨_, rfl⟩ := hh'
            simp [run_sliceBound (P := P) (w := w) (k := kl) (y := s.size) (code := .sliceB) c1 c2]
          | some v =>
            rw [hhi'] at hh'
            simp at hh'
            subst hh'
            simp [run_sliceBound (P := P) (w := w) (k := kg) (code := .sliceAlen) (by omega : (0 : Int) ≤ g) c3,
              run_sliceBound (P := P) (w := w) (k := kl) (y := g.toNat) (code := .sliceB) c1 (by omega)]
      simp [Instr.sliceAt, Instr.slice, run_underlying hu, hb]
    · cases hrun
  · cases hrun

theorem slcA_sound (hst : St G L I h w) {env : List AV} {a : Act} (he : EnvR G I env a.tmps) {t e : TypeId} {m sz : Nat} (hu : P.underlying t = some (.array m e)) (hs : szP P e = some sz)
    {x : Operand} {rx : RO} (hx : cRO x = some rx)
    {v : AV} {u : Upd} (hrun : (ROp.slcA m sz rx).run env h n = some (true, v, u)) :
    u = [] ∧ ∃ cv, (Instr.sliceAt t (a.eval x) none none none).run P w = .ok cv w ∧ VR G I v cv := by
  have hvx := ev_sound he hx
  simp only [ROp.run] at hrun
  split at hrun
  · rename_i id off hxe
    rw [hxe] at hvx
    simp only [VR] at hvx
    obtain ⟨b, base, ext, hi, hc⟩ := hvx
    cases hat : h.at id with
    | none => simp [hat] at hrun
    | some bk =>
      cases bk with
      | map es => simp [hat] at hrun
      | cells cs =>
        simp [hat, oki] at hrun
        obtain ⟨c1, rfl, rfl⟩ := hrun
        refine ⟨rfl, .slice (some ⟨b, base + off, none⟩) m m, ?_, ?_⟩
        · rw [hc]
          simp [Instr.sliceAt, run_underlying hu, Instr.sureAddr, Instr.sliceBounds, run_sizeOf hs, Addr.add_lit]
        · simp only [VR]
          obtain ⟨o, g2, g3, g4, g5⟩ := hst.ownOf hi hat
          obtain ⟨c, e', _, k2, _⟩ := g5
          exact .inr ⟨b, base, ext, m, hi, rfl, Nat.le_refl _, by omega⟩
  · cases hrun

theorem eqIn_ptr (d : Nat) {t e : TypeId} (hu : P.underlying t = some (.pointer e)) (q : Option Addr) (w : World) : (Op.equalIn (d + 1) t (.pointer q) (.pointer none)).run P w = .ok q.isNone w := by
  cases q <;> simp [Op.equalIn, run_underlying hu]
theorem eqIn_nilif (d : Nat) {t : TypeId} {e : Array (String × TypeId)} (hu : P.underlying t = some (.interface e)) (w : World) : (Op.equalIn (d + 1) t .nilIface .nilIface).run P w = .ok true w := by
  simp [Op.equalIn, run_underlying hu]
theorem eqIn_iface (d : Nat) {t : TypeId} {e : Array (String × TypeId)} (hu : P.underlying t = some (.interface e)) (u : TypeId) (v : Value) (w : World) : (Op.equalIn (d + 1) t (.iface u v) .nilIface).run P w = .ok false w := by
  simp [Op.equalIn, run_underlying hu]
theorem eqIn_nilfn (d : Nat) {t : TypeId} {p r : Array TypeId} {b : Bool} (hu : P.underlying t = some (.func p r b)) (w : World) : (Op.equalIn (d + 1) t .nilFunc .nilFunc).run P w = .ok true w := by
  simp [Op.equalIn, run_underlying hu]
theorem eqIn_fn (d : Nat) {t : TypeId} {p r : Array TypeId} {b : Bool} (hu : P.underlying t = some (.func p r b)) (f : Fn) (x y : Array Value) (w : World) : (Op.equalIn (d + 1) t (.func f x y) .nilFunc).run P w = .ok false w := by
  simp [Op.equalIn, run_underlying hu]

/-- A slice of which it is not known whether it is nil. -/
theorem isnil_any {t : TypeId} {x y : Operand} (hk : nilK P t = some 1) (hy : nilC y = some 1) {ca : Value} (ha : ∃ q l c, ca = .slice q l c) {neg : Bool} {ev : Operand → Value}
    (hev : ∀ c, ev (.const c) = c) (w : World) :
    ∃ b : Bool, (do eqGuard (if neg then .neq else .eql) t x y ca (ev y); binOp (if neg then .neq else .eql) t ca (ev y) : Sem Value).run P w = .ok (.bool b) w := by
  obtain ⟨q, l, c, rfl⟩ := ha
  have hu : ∃ e, P.underlying t = some (.slice e) := by
    unfold nilK at hk
    cases hu : P.underlying t with
    | none => simp [hu] at hk
    | some d => cases d <;> simp [hu] at hk ⊢
  obtain ⟨e, hu⟩ := hu
  unfold nilC at hy
  split at hy <;> (try (simp at hy; done)) <;> rw [hev]
  have h1 := run_equal_slice_nil (P := P) w t e q l c hu
  exact ⟨if neg then !q.isNone else q.isNone, by cases neg <;> simp [eqGuard, binOp, h1]⟩

theorem isnil_sound {t : TypeId} {kk : Nat} {x y : Operand} (hk : nilK P t = some kk) (hy : nilC y = some kk) {a v : AV} {ca : Value} {u : Upd} (ha : VR G I a ca) {neg : Bool} {ev : Operand → Value}
    (hev : ∀ c, ev (.const c) = c) {env : List AV} {rx : RO} (hrx : rx.ev env = a)
    (hrun : (ROp.isnil kk neg rx).run env h n = some (true, v, u)) :
    u = [] ∧ ∃ cv, (do eqGuard (if neg then .neq else .eql) t x y ca (ev y); binOp (if neg then .neq else .eql) t ca (ev y) : Sem Value).run P w = .ok cv w ∧ VR G I v cv := by
  simp only [ROp.run, hrx] at hrun
  unfold nilC at hy
  split at hy <;> (try cases hy) <;> rw [hev]
  · have hu : ∃ e, P.underlying t = some (.slice e) := by
      unfold nilK at hk
      cases hu : P.underlying t with
      | none => simp [hu] at hk
      | some d => cases d <;> simp [hu] at hk ⊢
    obtain ⟨e, hu⟩ := hu
    have key : ∀ (q : Option Addr) (l c : Nat) (w : World), (do eqGuard (if neg then .neq else .eql) t x (.const (.slice none 0 0)) (.slice q l c) (.slice none 0 0); binOp (if neg then .neq else .eql) t (.slice q l c) (.slice none 0 0) : Sem Value).run P w = .ok (.bool (if neg then !q.isNone else q.isNone)) w := by
      intro q l c w
      have h1 := run_equal_slice_nil (P := P) w t e q l c hu
      cases neg <;> simp [eqGuard, binOp, h1]
    cases a <;> (try (simp at hrun; done))
    case nils =>
      simp [okv] at hrun; obtain ⟨rfl, rfl⟩ := hrun
      simp only [VR] at ha; subst ha
      exact ⟨rfl, _, key none 0 0 w, by cases neg <;> exact VRbool⟩
    case lit sz es =>
      cases es with
      | nil => simp at hrun
      | cons a as =>
        simp [okv] at hrun; obtain ⟨rfl, rfl⟩ := hrun
        simp only [VR] at ha
        rcases ha with ⟨h0, _⟩ | ⟨b, o, obj, cap, vs, rfl, _⟩
        · cases h0
        · exact ⟨rfl, _, key _ _ _ w, by cases neg <;> exact VRbool⟩
    case slice id off ln sz =>
      cases ln with
      | zero => simp at hrun
      | succ ln =>
        simp [okv] at hrun; obtain ⟨rfl, rfl⟩ := hrun
        simp only [VR] at ha
        rcases ha with ⟨h0, _⟩ | ⟨b, base, ext, cap, _, rfl, _⟩
        · cases h0
        · exact ⟨rfl, _, key _ _ _ w, by cases neg <;> exact VRbool⟩
  · have hu : ∃ k e, P.underlying t = some (.map k e) := by
      unfold nilK at hk
      cases hu : P.underlying t with
      | none => simp [hu] at hk
      | some d => cases d <;> simp [hu] at hk ⊢
    obtain ⟨k, e, hu⟩ := hu
    have key : ∀ (q : Option Nat) (w : World), (do eqGuard (if neg then .neq else .eql) t x (.const (.map none)) (.map q) (.map none); binOp (if neg then .neq else .eql) t (.map q) (.map none) : Sem Value).run P w = .ok (.bool (if neg then !q.isNone else q.isNone)) w := by
      intro q w
      have h1 := run_equal_map_nil (P := P) w t k e q hu
      cases neg <;> simp [eqGuard, binOp, h1]
    cases a <;> (try (simp at hrun; done))
    case nilmap =>
      simp [okv] at hrun; obtain ⟨rfl, rfl⟩ := hrun
      simp only [VR] at ha; subst ha
      exact ⟨rfl, _, key none w, by cases neg <;> exact VRbool⟩
    case mapr id =>
      simp [okv] at hrun; obtain ⟨rfl, rfl⟩ := hrun
      simp only [VR] at ha; obtain ⟨b, base, ext, _, rfl⟩ := ha
      exact ⟨rfl, _, key _ w, by cases neg <;> exact VRbool⟩
  · have hu : ∃ e, P.underlying t = some (.pointer e) := by
      unfold nilK at hk
      cases hu : P.underlying t with
      | none => simp [hu] at hk
      | some d => cases d <;> simp [hu] at hk ⊢
    obtain ⟨e, hu⟩ := hu
    have key : ∀ (q : Option Addr) (w : World), (do eqGuard (if neg then .neq else .eql) t x (.const (.pointer none)) (.pointer q) (.pointer none); binOp (if neg then .neq else .eql) t (.pointer q) (.pointer none) : Sem Value).run P w = .ok (.bool (if neg then !q.isNone else q.isNone)) w := by
      intro q w
      have h1 : (Op.equal t (.pointer q) (.pointer none)).run P w = .ok q.isNone w := eqIn_ptr 9999 hu q w
      cases neg <;> simp [eqGuard, binOp, h1]
    cases a <;> (try (simp at hrun; done))
    case nilp =>
      simp [okv] at hrun; obtain ⟨rfl, rfl⟩ := hrun
      simp only [VR] at ha; subst ha
      exact ⟨rfl, _, key none w, by cases neg <;> exact VRbool⟩
    case ptr id off =>
      simp [okv] at hrun; obtain ⟨rfl, rfl⟩ := hrun
      simp only [VR] at ha; obtain ⟨b, base, ext, _, rfl⟩ := ha
      exact ⟨rfl, _, key _ w, by cases neg <;> exact VRbool⟩
    case vptr cs off =>
      simp [okv] at hrun; obtain ⟨rfl, rfl⟩ := hrun
      simp only [VR] at ha; obtain ⟨b, o, obj, vs, rfl, _⟩ := ha
      exact ⟨rfl, _, key _ w, by cases neg <;> exact VRbool⟩
  · have hu : ∃ e, P.underlying t = some (.interface e) := by
      unfold nilK at hk
      cases hu : P.underlying t with
      | none => simp [hu] at hk
      | some d => cases d <;> simp [hu] at hk ⊢
    obtain ⟨e, hu⟩ := hu
    cases a <;> (try (simp at hrun; done))
    case nilif =>
      simp [okv] at hrun; obtain ⟨rfl, rfl⟩ := hrun
      simp only [VR] at ha; subst ha
      refine ⟨rfl, .bool (!neg), ?_, VRbool⟩
      have h1 : (Op.equal t .nilIface .nilIface).run P w = .ok true w := eqIn_nilif 9999 hu w
      cases neg <;> cases x <;> simp [eqGuard, binOp, h1]
    case iface u v =>
      simp [okv] at hrun; obtain ⟨rfl, rfl⟩ := hrun
      simp only [VR] at ha; obtain ⟨v', rfl, _⟩ := ha
      refine ⟨rfl, .bool neg, ?_, VRbool⟩
      have h1 : (Op.equal t (.iface u v') .nilIface).run P w = .ok false w := eqIn_iface 9999 hu u v' w
      cases neg <;> simp [eqGuard, binOp, h1]
  · have hu : ∃ p r b, P.underlying t = some (.func p r b) := by
      unfold nilK at hk
      cases hu : P.underlying t with
      | none => simp [hu] at hk
      | some d => cases d <;> simp [hu] at hk ⊢
    obtain ⟨p, r, b, hu⟩ := hu
    cases a <;> (try (simp at hrun; done))
    case nilfn =>
      simp [okv] at hrun; obtain ⟨rfl, rfl⟩ := hrun
      simp only [VR] at ha; subst ha
      refine ⟨rfl, .bool (!neg), ?_, VRbool⟩
      have h1 : (Op.equal t .nilFunc .nilFunc).run P w = .ok true w := eqIn_nilfn 9999 hu w
      cases neg <;> simp [eqGuard, binOp, h1]
    case fn f cap =>
      simp [okv] at hrun; obtain ⟨rfl, rfl⟩ := hrun
      simp only [VR] at ha; obtain ⟨vs, rfl, _⟩ := ha
      refine ⟨rfl, .bool neg, ?_, VRbool⟩
      have h1 : (Op.equal t (.func (.func f) #[] vs.toArray) .nilFunc).run P w = .ok false w := eqIn_fn 9999 hu _ _ _ w
      cases neg <;> simp [eqGuard, binOp, h1]
end
end Go.AM

namespace Go.AM
section
variable {P : Program} {w : World} {G : Snap} {L : Lk} {I : Inj} {h : Heap} {n : Nat}

theorem flatMap_cells {es : List AV} {vs : List Value} (hv : VRs G I es vs) (hval : es.all AV.val = true) : VRs G I (es.flatMap AV.cells) (flatV vs) := by
  induction es generalizing vs with
  | nil => simp [VRs] at hv; subst hv; simp [flatV, VRs]
  | cons a as ih =>
    simp only [VRs] at hv
    obtain ⟨v, r, rfl, h1, h2⟩ := hv
    simp only [List.all_cons, Bool.and_eq_true] at hval
    simp only [List.flatMap_cons, flatV]
    exact VRs_append (VR_cells h1 hval.1) (ih h2 hval.2)

theorem flatMap_one {es : List AV} (hval : es.all AV.val = true) : (es.flatMap AV.cells).all AV.one = true := by
  rw [List.all_eq_true] at hval ⊢
  intro x hx
  obtain ⟨a, ha, hx⟩ := List.mem_flatMap.1 hx
  exact (List.all_eq_true.1 (val_cells (hval a ha))) x hx

/-- What an append or a copy takes from. -/
theorem sliceCells_sound (hs : St G L I h w) {sz m : Nat} {a : AV} {c : Value} {cs : List AV} (hv : VR G I a c) (hr : sliceCells h sz a = some (m, cs)) :
    ∃ q cap vs, c = .slice q m cap ∧ VRs G I cs vs ∧ cs.all AV.one = true ∧ (vs.length = m * sz ∨ (m = 0 ∧ vs = [])) ∧ 
      (∀ w1 : World, w1.heap = w.heap → (Builtin.firstCells sz m c).run P w1 = .ok vs.toArray w1) := by
  cases a <;> (try (simp [sliceCells] at hr; done))
  case nils =>
    simp [sliceCells] at hr; obtain ⟨rfl, rfl⟩ := hr
    simp only [VR] at hv; subst hv
    exact ⟨none, 0, [], rfl, by simp [VRs], rfl, .inr ⟨rfl, rfl⟩, fun w1 _ => run_firstCells_none w1 sz 0 0 0⟩
  case emp =>
    simp [sliceCells] at hr; obtain ⟨rfl, rfl⟩ := hr
    simp only [VR] at hv; obtain ⟨q, rfl⟩ := hv
    refine ⟨q, 0, [], rfl, by simp [VRs], rfl, .inr ⟨rfl, rfl⟩, fun w1 _ => ?_⟩
    cases q with
    | none => exact run_firstCells_none w1 sz 0 0 0
    | some b => simp [Builtin.firstCells, loadCells, loadCellsFrom]
  case lit sz' es =>
    simp [sliceCells] at hr
    obtain ⟨rfl, rfl, rfl⟩ := hr
    simp only [VR] at hv
    rcases hv with ⟨rfl, q, cap, rfl⟩ | ⟨b, o, obj, cap, vs, rfl, hcap, hg, hvs, hh, hcs, hval⟩
    · refine ⟨q, cap, [], rfl, by simp [VRs], rfl, .inr ⟨rfl, rfl⟩, fun w1 _ => ?_⟩
      cases q with
      | none => exact run_firstCells_none w1 sz' 0 0 cap
      | some b => simp [Builtin.firstCells, loadCells, loadCellsFrom]
    · have hl := VRs_length hvs
      refine ⟨_, cap, flatV vs, rfl, flatMap_cells hvs hval, flatMap_one hval, .inl (by rw [flatV_length hcs, hl]), fun w1 hw => ?_⟩
      exact run_firstCells_some w1 sz' es.length ⟨b, o, none⟩ _ cap (flatV vs) (by rw [flatV_length hcs, hl]) fun j v hj => by
        rw [Addr.add_lit]
        exact holdsAt_read (w := w1) (by rw [hw]; exact hs.g _ _ hg) hh j v hj
  case slice id off ln sz' =>
    simp only [sliceCells] at hr
    split at hr
    · rename_i hz; subst hz
      cases hat : h.at id with
      | none => simp [hat] at hr
      | some bk =>
        cases bk with
        | map es => simp [hat] at hr
        | cells bs =>
          simp [hat] at hr
          obtain ⟨hle, rfl, rfl⟩ := hr
          simp only [VR] at hv
          rcases hv with ⟨rfl, q, rfl⟩ | ⟨b, base, ext, cap, hi, rfl, hcap, hx⟩
          · refine ⟨q, 0, [], rfl, by simp [VRs], by simp, .inr ⟨rfl, rfl⟩, fun w1 _ => ?_⟩
            cases q <;> simp [Builtin.firstCells, loadCells, loadCellsFrom]
          · obtain ⟨vs, hvs, hrd⟩ := hs.cellsAt hi hat
            have hl := VRs_length hvs
            have hlen : ((vs.drop off).take (ln * sz')).length = ln * sz' := by simp; omega
            have hone : bs.all AV.one = true := by
              obtain ⟨o, _, _, _, g5⟩ := hs.ownOf hi hat
              obtain ⟨c, e, _, _, _, k4⟩ := g5
              rw [List.all_eq_true]
              intro x hx
              obtain ⟨j, hj, rfl⟩ := List.getElem_of_mem hx
              exact (k4 j _ (List.getElem?_eq_getElem hj)).1
            refine ⟨_, cap, (vs.drop off).take (ln * sz'), rfl, VRs_take (VRs_drop hvs off) _, ?_, .inl hlen, fun w1 hw => ?_⟩
            · rw [List.all_eq_true] at hone ⊢
              exact fun x hx => hone x (List.mem_of_mem_drop (List.mem_of_mem_take hx))
            · refine run_firstCells_some w1 sz' ln ⟨b, base + off, none⟩ _ cap _ hlen fun j v hj => ?_
              rw [Addr.add_lit]
              have := ((hrd.drop off).take (ln * sz')) j v hj
              unfold World.cell? at this ⊢
              rw [hw]; exact this
    · cases hr
end
end Go.AM
