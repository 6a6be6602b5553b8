/- Equations by which walks are simplified. No condition. -/
import Derived.Test.YtoeeiaconpagaaaAm4
set_option linter.unusedVariables false
set_option linter.unusedSimpArgs false
set_option linter.unnecessarySimpa false
namespace Go.AM

/-! Equations by which a walk is simplified. -/

section
variable {P : Program} {n0 nt : Nat} {Q : QE} {te : AEnv} {h : Heap}

def guardK (P : Program) (n0 nt : Nat) (Q : QE) (d : Option Nat) (op : ROp) (os : List ROper) (te : AEnv) (h : Heap) (want : Bool) (v : AV) : Prop :=
  guardE (opE P n0 nt Q d op (opsE P n0 nt Q os) te h) (inF nt d = true ∧ opsE P n0 nt Q os (setF te d (.tup [])) h) want v

theorem opsE_nil : opsE P n0 nt Q [] te h = Q .normal te h := rfl
theorem opsE_n {d : Option Nat} {op : ROp} {os : List ROper} : opsE P n0 nt Q (⟨d, none, op⟩ :: os) te h = opE P n0 nt Q d op (opsE P n0 nt Q os) te h := rfl
theorem opsE_g {d : Option Nat} {op : ROp} {os : List ROper} {g : Nat} {w : Bool} : opsE P n0 nt Q (⟨d, some (g, w), op⟩ :: os) te h = guardK P n0 nt Q d op os te h w (lookE te g) := rfl
theorem guardK_tt {d : Option Nat} {op : ROp} {os : List ROper} : guardK P n0 nt Q d op os te h true (.bool true) = opE P n0 nt Q d op (opsE P n0 nt Q os) te h := by simp [guardK, guardE]
theorem guardK_ff {d : Option Nat} {op : ROp} {os : List ROper} : guardK P n0 nt Q d op os te h false (.bool false) = opE P n0 nt Q d op (opsE P n0 nt Q os) te h := by simp [guardK, guardE]
theorem guardK_tf {d : Option Nat} {op : ROp} {os : List ROper} : guardK P n0 nt Q d op os te h true (.bool false) = (inF nt d = true ∧ opsE P n0 nt Q os (setF te d (.tup [])) h) := by simp [guardK, guardE]
theorem guardK_ft {d : Option Nat} {op : ROp} {os : List ROper} : guardK P n0 nt Q d op os te h false (.bool true) = (inF nt d = true ∧ opsE P n0 nt Q os (setF te d (.tup [])) h) := by simp [guardK, guardE]
theorem guardK_tup {d : Option Nat} {op : ROp} {os : List ROper} {w : Bool} {vs : List AV} : guardK P n0 nt Q d op os te h w (.tup vs) = (inF nt d = true ∧ opsE P n0 nt Q os (setF te d (.tup [])) h) := rfl
theorem guardK_split {d : Option Nat} {op : ROp} {os : List ROper} {w b : Bool} (h1 : b = w → opE P n0 nt Q d op (opsE P n0 nt Q os) te h) (h2 : b = (!w) → inF nt d = true ∧ opsE P n0 nt Q os (setF te d (.tup [])) h) : guardK P n0 nt Q d op os te h w (.bool b) := by
  refine ⟨fun e => h1 (by simpa using e), fun e => h2 ?_⟩
  cases b <;> cases w <;> simp_all

-- what an operation does
variable {d : Option Nat} {next : AEnv → Heap → Prop}
theorem opE_call {f : RO} {args : List RO} : opE P n0 nt Q d (.call f args) next te h = callE P n0 nt Q d f args next te h := rfl
theorem opE_panic {x : RO} : opE P n0 nt Q d (.panic x) next te h = panE Q te h (evF te x) := rfl
theorem opE_isnil {neg : Bool} {x : RO} : opE P n0 nt Q d (.isnil 1 neg x) next te h = nilE nt neg d next te h (evF te x) ((ROp.isnil 1 neg x).runG (evF te) h.at h.length) := rfl
theorem opE_isnil2 {neg : Bool} {x : RO} : opE P n0 nt Q d (.isnil 2 neg x) next te h = stepK next nt d te h ((ROp.isnil 2 neg x).runG (evF te) h.at h.length) := rfl
theorem opE_isnil3 {neg : Bool} {x : RO} : opE P n0 nt Q d (.isnil 3 neg x) next te h = stepK next nt d te h ((ROp.isnil 3 neg x).runG (evF te) h.at h.length) := rfl
theorem opE_isnil4 {neg : Bool} {x : RO} : opE P n0 nt Q d (.isnil 4 neg x) next te h = stepK next nt d te h ((ROp.isnil 4 neg x).runG (evF te) h.at h.length) := rfl
theorem opE_isnil5 {neg : Bool} {x : RO} : opE P n0 nt Q d (.isnil 5 neg x) next te h = stepK next nt d te h ((ROp.isnil 5 neg x).runG (evF te) h.at h.length) := rfl

theorem stepK_some {c : Bool} {v : AV} {u : Upd} : stepK next nt d te h (some (c, v, u)) = (inF nt d = true ∧ c = true ∧ next (setF te d v) (h.upd u)) := rfl
theorem stepK_okv {v : AV} : stepK next nt d te h (okv v) = (inF nt d = true ∧ next (setF te d v) h) := by simp [stepK, okv, Heap.upd]
theorem stepK_oki {c : Bool} {v : AV} : stepK next nt d te h (oki c v) = (inF nt d = true ∧ c = true ∧ next (setF te d v) h) := by simp [stepK, oki, Heap.upd]

theorem opE_mv {x : RO} : opE P n0 nt Q d (.mv x) next te h = stepK next nt d te h (okv (evF te x)) := rfl
def pickR (c a b : AV) : Res := match c with
  | .bool t => match a, b with
    | .bool p, .bool q => okv (.bool (bif t then p else q))
    | p, q => okv (bif t then p else q)
  | _ => none
theorem opE_pick {c a b : RO} : opE P n0 nt Q d (.pick c a b) next te h = stepK next nt d te h (pickR (evF te c) (evF te a) (evF te b)) := rfl
theorem pickR_bb {t p q : Bool} : pickR (.bool t) (.bool p) (.bool q) = okv (.bool (bif t then p else q)) := rfl
theorem pickR_t {p q : AV} : pickR (.bool true) p q = okv p := by unfold pickR; cases p <;> cases q <;> rfl
theorem pickR_f {p q : AV} : pickR (.bool false) p q = okv q := by unfold pickR; cases p <;> cases q <;> rfl
theorem opE_alloc {z : List AV} : opE P n0 nt Q d (.alloc z) next te h = stepK next nt d te h (some (z.all AV.one, .ptr h.length 0, [(h.length, some (.cells z))])) := rfl
theorem opE_box {x : RO} : opE P n0 nt Q d (.box x) next te h = stepK next nt d te h (some ((evF te x).val, .ptr h.length 0, [(h.length, some (.cells (evF te x).cells))])) := rfl
def buildR : Option (Bool × List AV) → Res
  | some (b, cs) => oki b (.agg cs)
  | none => none
theorem buildR_some {b : Bool} {cs : List AV} : buildR (some (b, cs)) = oki b (.agg cs) := rfl
theorem opE_build {z : List AV} {ps : List (Nat × Nat × RO)} : opE P n0 nt Q d (.build z ps) next te h = stepK next nt d te h (buildR (fillG (evF te) z ps)) := rfl
def bsliceR (n sz ln : Nat) (z : List AV) : Option (Bool × List AV) → Res
  | some (b, cs) => some (b && z.all AV.one, .slice n 0 ln sz, [(n, some (.cells cs))])
  | none => none
theorem bsliceR_some {n sz ln : Nat} {z : List AV} {b : Bool} {cs : List AV} : bsliceR n sz ln z (some (b, cs)) = some (b && z.all AV.one, .slice n 0 ln sz, [(n, some (.cells cs))]) := rfl
theorem opE_bslice {sz ln : Nat} {z : List AV} {ps : List (Nat × RO)} : opE P n0 nt Q d (.bslice sz ln z ps) next te h = stepK next nt d te h (bsliceR h.length sz ln z (fillG (evF te) ((List.replicate ln z).flatten) (ps.map fun x => (x.1 * sz, sz, x.2)))) := rfl
def partR (v : Option AV) : Res := match v with | some v => okv v | none => none
theorem partR_some {v : AV} : partR (some v) = okv v := rfl
def cellR (ag : Option Nat) (off : Nat) : Option Blk → Res
  | some (.cells cs) => partR (part ag cs off)
  | _ => none
theorem cellR_some {ag : Option Nat} {off : Nat} {cs : List AV} : cellR ag off (some (.cells cs)) = partR (part ag cs off) := rfl
def loadR (hat : Nat → Option Blk) (ag : Option Nat) : AV → Res
  | .ptr id off => cellR ag off (hat id)
  | .vptr cs off => partR (part ag cs off)
  | _ => none
theorem loadR_ptr {hat : Nat → Option Blk} {ag : Option Nat} {id off : Nat} : loadR hat ag (.ptr id off) = cellR ag off (hat id) := rfl
theorem loadR_vptr {hat : Nat → Option Blk} {ag : Option Nat} {cs : List AV} {off : Nat} : loadR hat ag (.vptr cs off) = partR (part ag cs off) := rfl
theorem run_load {ev : RO → AV} {hat : Nat → Option Blk} {n : Nat} {ag : Option Nat} {a : RO} : (ROp.load ag a).runG ev hat n = loadR hat ag (ev a) := by
  simp only [ROp.runG, loadR]
  cases ev a <;> rfl
theorem opE_load {ag : Option Nat} {a : RO} : opE P n0 nt Q d (.load ag a) next te h = stepK next nt d te h (loadR h.at ag (evF te a)) := by
  show stepK next nt d te h _ = _
  rw [run_load]
def storeC (id n off : Nat) (v : AV) : Option Blk → Res
  | some (.cells cs) => if v.cells.length = n ∧ off + n ≤ cs.length then some (v.val, .tup [], [(id, some (.cells (overwrite cs off v.cells)))]) else none
  | _ => none
theorem storeC_some {id n off : Nat} {v : AV} {cs : List AV} : storeC id n off v (some (.cells cs)) = if v.cells.length = n ∧ off + n ≤ cs.length then some (v.val, .tup [], [(id, some (.cells (overwrite cs off v.cells)))]) else none := rfl
def storeR (hat : Nat → Option Blk) (n : Nat) (v : AV) : AV → Res
  | .ptr id off => storeC id n off v (hat id)
  | _ => none
theorem storeR_ptr {hat : Nat → Option Blk} {n id off : Nat} {v : AV} : storeR hat n v (.ptr id off) = storeC id n off v (hat id) := rfl
theorem run_store {ev : RO → AV} {hat : Nat → Option Blk} {k n : Nat} {a x : RO} : (ROp.store n a x).runG ev hat k = storeR hat n (ev x) (ev a) := by
  simp only [ROp.runG, storeR]
  cases ev a <;> rfl
theorem opE_store {n : Nat} {a x : RO} : opE P n0 nt Q d (.store n a x) next te h = stepK next nt d te h (storeR h.at n (evF te x) (evF te a)) := by
  show stepK next nt d te h _ = _
  rw [run_store]
def faddrR (off : Nat) : AV → Res
  | .ptr id o => okv (.ptr id (o + off))
  | .vptr cs o => okv (.vptr cs (o + off))
  | _ => none
theorem faddrR_ptr {off id o : Nat} : faddrR off (.ptr id o) = okv (.ptr id (o + off)) := rfl
theorem faddrR_vptr {off o : Nat} {cs : List AV} : faddrR off (.vptr cs o) = okv (.vptr cs (o + off)) := rfl
theorem run_faddr {ev : RO → AV} {hat : Nat → Option Blk} {k off : Nat} {a : RO} : (ROp.faddr off a).runG ev hat k = faddrR off (ev a) := by
  simp only [ROp.runG, faddrR]
  cases ev a <;> rfl
theorem opE_faddr {off : Nat} {a : RO} : opE P n0 nt Q d (.faddr off a) next te h = stepK next nt d te h (faddrR off (evF te a)) := by
  show stepK next nt d te h _ = _
  rw [run_faddr]
def fldR (ag : Option Nat) (off : Nat) : AV → Res
  | .agg cs => partR (part ag cs off)
  | _ => none
theorem fldR_agg {ag : Option Nat} {off : Nat} {cs : List AV} : fldR ag off (.agg cs) = partR (part ag cs off) := rfl
theorem run_fld {ev : RO → AV} {hat : Nat → Option Blk} {k : Nat} {ag : Option Nat} {off : Nat} {x : RO} : (ROp.fld ag off x).runG ev hat k = fldR ag off (ev x) := by
  simp only [ROp.runG, fldR]
  cases ev x <;> rfl
theorem opE_fld {ag : Option Nat} {off : Nat} {x : RO} : opE P n0 nt Q d (.fld ag off x) next te h = stepK next nt d te h (fldR ag off (evF te x)) := by
  show stepK next nt d te h _ = _
  rw [run_fld]
def iaSR (sz : Nat) (x i : AV) : Res := match x, i with
  | .lit sz' es, .int _ k => if sz' = sz then oki (decide (0 ≤ k ∧ k < es.length)) (.vptr (es.getD k.toNat .undef).cells 0) else none
  | .slice id off ln sz', .int _ k => if sz' = sz then oki (decide (0 ≤ k ∧ k < ln)) (.ptr id (off + k.toNat * sz)) else none
  | _, _ => none
theorem iaSR_lit {sz : Nat} {es : List AV} {K : IntKind} {k : Int} : iaSR sz (.lit sz es) (.int K k) = oki (decide (0 ≤ k ∧ k < es.length)) (.vptr (es.getD k.toNat .undef).cells 0) := by simp [iaSR]
theorem iaSR_slice {sz id off ln : Nat} {K : IntKind} {k : Int} : iaSR sz (.slice id off ln sz) (.int K k) = oki (decide (0 ≤ k ∧ k < ln)) (.ptr id (off + k.toNat * sz)) := by simp [iaSR]
theorem run_iaS {ev : RO → AV} {hat : Nat → Option Blk} {k sz : Nat} {x i : RO} : (ROp.iaS sz x i).runG ev hat k = iaSR sz (ev x) (ev i) := by
  simp only [ROp.runG, iaSR]
  cases ev x <;> cases ev i <;> rfl
theorem opE_iaS {sz : Nat} {x i : RO} : opE P n0 nt Q d (.iaS sz x i) next te h = stepK next nt d te h (iaSR sz (evF te x) (evF te i)) := by
  show stepK next nt d te h _ = _
  rw [run_iaS]
def iaAR (ln sz : Nat) (x i : AV) : Res := match x, i with
  | .ptr id off, .int _ k => oki (decide (0 ≤ k ∧ k < ln)) (.ptr id (off + k.toNat * sz))
  | .vptr cs off, .int _ k => oki (decide (0 ≤ k ∧ k < ln)) (.vptr cs (off + k.toNat * sz))
  | _, _ => none
theorem iaAR_ptr {ln sz id off : Nat} {K : IntKind} {k : Int} : iaAR ln sz (.ptr id off) (.int K k) = oki (decide (0 ≤ k ∧ k < ln)) (.ptr id (off + k.toNat * sz)) := rfl
theorem iaAR_vptr {ln sz off : Nat} {cs : List AV} {K : IntKind} {k : Int} : iaAR ln sz (.vptr cs off) (.int K k) = oki (decide (0 ≤ k ∧ k < ln)) (.vptr cs (off + k.toNat * sz)) := rfl
theorem run_iaA {ev : RO → AV} {hat : Nat → Option Blk} {k ln sz : Nat} {x i : RO} : (ROp.iaA ln sz x i).runG ev hat k = iaAR ln sz (ev x) (ev i) := by
  simp only [ROp.runG, iaAR]
  cases ev x <;> cases ev i <;> rfl
theorem opE_iaA {ln sz : Nat} {x i : RO} : opE P n0 nt Q d (.iaA ln sz x i) next te h = stepK next nt d te h (iaAR ln sz (evF te x) (evF te i)) := by
  show stepK next nt d te h _ = _
  rw [run_iaA]
def ckR (c : Bool) : Option AV → Res
  | some v => oki c v
  | none => none
theorem ckR_some {c : Bool} {v : AV} : ckR c (some v) = oki c v := rfl
def ixAR (ln sz : Nat) (ag : Option Nat) (x i : AV) : Res := match x, i with
  | .agg cs, .int _ k => ckR (decide (0 ≤ k ∧ k < ln)) (part ag cs (k.toNat * sz))
  | _, _ => none
theorem ixAR_agg {ln sz : Nat} {ag : Option Nat} {cs : List AV} {K : IntKind} {k : Int} : ixAR ln sz ag (.agg cs) (.int K k) = ckR (decide (0 ≤ k ∧ k < ln)) (part ag cs (k.toNat * sz)) := rfl
theorem run_ixA {ev : RO → AV} {hat : Nat → Option Blk} {k ln sz : Nat} {ag : Option Nat} {x i : RO} : (ROp.ixA ln sz ag x i).runG ev hat k = ixAR ln sz ag (ev x) (ev i) := by
  simp only [ROp.runG, ixAR]
  cases ev x <;> cases ev i <;> rfl
theorem opE_ixA {ln sz : Nat} {ag : Option Nat} {x i : RO} : opE P n0 nt Q d (.ixA ln sz ag x i) next te h = stepK next nt d te h (ixAR ln sz ag (evF te x) (evF te i)) := by
  show stepK next nt d te h _ = _
  rw [run_ixA]
theorem opE_bin {op : BinOp} {x y : RO} : opE P n0 nt Q d (.bin op x y) next te h = stepK next nt d te h (binA op (evF te x) (evF te y)) := rfl
def eqR (neg : Bool) : Option Bool → Res
  | some b => okv (.bool (if neg then !b else b))
  | none => none
theorem eqR_f {b : Bool} : eqR false (some b) = okv (.bool b) := rfl
theorem eqR_t {b : Bool} : eqR true (some b) = okv (.bool (!b)) := rfl
theorem run_eq {ev : RO → AV} {hat : Nat → Option Blk} {k : Nat} {neg : Bool} {ag : EqK} {x y : RO} : (ROp.eq neg ag x y).runG ev hat k = eqR neg (AV.eqv ag (ev x) (ev y)) := by
  simp only [ROp.runG, eqR]
  cases AV.eqv ag (ev x) (ev y) <;> rfl
theorem opE_eq {neg : Bool} {ag : EqK} {x y : RO} : opE P n0 nt Q d (.eq neg ag x y) next te h = stepK next nt d te h (eqR neg (AV.eqv ag (evF te x) (evF te y))) := by
  show stepK next nt d te h _ = _
  rw [run_eq]
def unR (op : UnOp) : AV → Res
  | .int k a => match op with | .neg => okv (.int k (k.wrap (0 - a))) | _ => none
  | .bool b => match op with | .not => okv (.bool (!b)) | _ => none
  | _ => none
theorem unR_not {b : Bool} : unR .not (.bool b) = okv (.bool (!b)) := rfl
theorem unR_neg {k : IntKind} {a : Int} : unR .neg (.int k a) = okv (.int k (k.wrap (0 - a))) := rfl
theorem run_un {ev : RO → AV} {hat : Nat → Option Blk} {k : Nat} {op : UnOp} {x : RO} : (ROp.un op x).runG ev hat k = unR op (ev x) := by
  simp only [ROp.runG, unR]
  cases op <;> cases ev x <;> rfl
theorem opE_un {op : UnOp} {x : RO} : opE P n0 nt Q d (.un op x) next te h = stepK next nt d te h (unR op (evF te x)) := by
  show stepK next nt d te h _ = _
  rw [run_un]
def convR (k : IntKind) : AV → Res
  | .int _ a => okv (.int k (k.wrap a))
  | _ => none
theorem convR_int {k K : IntKind} {a : Int} : convR k (.int K a) = okv (.int k (k.wrap a)) := rfl
theorem opE_conv {k : IntKind} {x : RO} : opE P n0 nt Q d (.conv k x) next te h = stepK next nt d te h (convR k (evF te x)) := by
  show stepK next nt d te h _ = _
  congr 1
def extR (i : Nat) : AV → Res
  | .tup vs => partR vs[i]?
  | _ => none
theorem extR_tup {i : Nat} {vs : List AV} : extR i (.tup vs) = partR vs[i]? := rfl
theorem opE_ext {x : RO} {i : Nat} : opE P n0 nt Q d (.ext x i) next te h = stepK next nt d te h (extR i (evF te x)) := by
  show stepK next nt d te h _ = _
  congr 1
theorem opE_mkfn {f : Nat} {caps : List RO} : opE P n0 nt Q d (.mkfn f caps) next te h = stepK next nt d te h (okv (.fn f (caps.map (evF te)))) := rfl
theorem opE_mkif {t : Nat} {x : RO} : opE P n0 nt Q d (.mkif t x) next te h = stepK next nt d te h (okv (.iface t (evF te x))) := rfl
theorem opE_mkmap : opE P n0 nt Q d .mkmap next te h = stepK next nt d te h (some (true, .mapr h.length, [(h.length, some (.map []))])) := rfl
def lenM : Option Blk → Res
  | some (.map es) => okv (.int .i64 es.length)
  | _ => none
def lenR (hat : Nat → Option Blk) (k : Nat) (x : AV) : Res := match x with
  | .str s => match k with | 0 => okv (.int .i64 s.size) | _ => none
  | .nils => match k with | 1 => okv (.int .i64 0) | _ => none
  | .emp => match k with | 1 => okv (.int .i64 0) | _ => none
  | .lit _ es => match k with | 1 => okv (.int .i64 es.length) | _ => none
  | .slice _ _ ln _ => match k with | 1 => okv (.int .i64 ln) | _ => none
  | .nilmap => match k with | 2 => okv (.int .i64 0) | _ => none
  | .mapr id => match k with | 2 => lenM (hat id) | _ => none
  | _ => none
theorem lenM_some {es : List (AV × AV)} : lenM (some (.map es)) = okv (.int .i64 es.length) := rfl
section
variable {hat : Nat → Option Blk}
theorem lenR_str {s : ByteArray} : lenR hat 0 (.str s) = okv (.int .i64 s.size) := rfl
theorem lenR_nils : lenR hat 1 .nils = okv (.int .i64 0) := rfl
theorem lenR_emp : lenR hat 1 .emp = okv (.int .i64 0) := rfl
theorem lenR_lit {sz : Nat} {es : List AV} : lenR hat 1 (.lit sz es) = okv (.int .i64 es.length) := rfl
theorem lenR_slice {id off ln sz : Nat} : lenR hat 1 (.slice id off ln sz) = okv (.int .i64 ln) := rfl
theorem lenR_nilmap : lenR hat 2 .nilmap = okv (.int .i64 0) := rfl
theorem lenR_mapr {id : Nat} : lenR hat 2 (.mapr id) = lenM (hat id) := rfl
end
theorem run_len {ev : RO → AV} {hat : Nat → Option Blk} {n k : Nat} {x : RO} : (ROp.len k x).runG ev hat n = lenR hat k (ev x) := by
  simp only [ROp.runG, lenR]
  cases ev x <;> rcases k with _ | _ | _ | k <;> rfl
theorem opE_len {k : Nat} {x : RO} : opE P n0 nt Q d (.len k x) next te h = stepK next nt d te h (lenR h.at k (evF te x)) := by
  show stepK next nt d te h _ = _
  rw [run_len]

-- integers
theorem bin_add {k : IntKind} {a b : Int} : binA .add (.int k a) (.int k b) = okv (.int k (k.wrap (a + b))) := by simp [binA]
theorem bin_sub {k : IntKind} {a b : Int} : binA .sub (.int k a) (.int k b) = okv (.int k (k.wrap (a - b))) := by simp [binA]
theorem bin_mul {k : IntKind} {a b : Int} : binA .mul (.int k a) (.int k b) = okv (.int k (k.wrap (a * b))) := by simp [binA]
theorem bin_quo {k : IntKind} {a b : Int} : binA .quo (.int k a) (.int k b) = oki (decide (b ≠ 0)) (.int k (k.wrap (a.tdiv b))) := by simp [binA]
theorem bin_rem {k : IntKind} {a b : Int} : binA .rem (.int k a) (.int k b) = oki (decide (b ≠ 0)) (.int k (a.tmod b)) := by simp [binA]
theorem bin_eql {k : IntKind} {a b : Int} : binA .eql (.int k a) (.int k b) = okv (.bool (a == b)) := by simp [binA]
theorem bin_neq {k : IntKind} {a b : Int} : binA .neq (.int k a) (.int k b) = okv (.bool (a != b)) := by simp [binA]
theorem bin_lss {k : IntKind} {a b : Int} : binA .lss (.int k a) (.int k b) = okv (.bool (decide (a < b))) := by simp [binA]
theorem bin_leq {k : IntKind} {a b : Int} : binA .leq (.int k a) (.int k b) = okv (.bool (decide (a ≤ b))) := by simp [binA]
theorem bin_gtr {k : IntKind} {a b : Int} : binA .gtr (.int k a) (.int k b) = okv (.bool (decide (a > b))) := by simp [binA]
theorem bin_geq {k : IntKind} {a b : Int} : binA .geq (.int k a) (.int k b) = okv (.bool (decide (a ≥ b))) := by simp [binA]
theorem eqv_i {k : IntKind} {a b : Int} : AV.eqv .i (.int k a) (.int k b) = some (a == b) := by simp [AV.eqv]
theorem eqv_b {a b : Bool} : AV.eqv .b (.bool a) (.bool b) = some (a == b) := rfl
theorem eqv_s {a b : ByteArray} : AV.eqv .s (.str a) (.str b) = some (a == b) := rfl

-- code
variable {bef : List Nat} {ops : List ROper}
theorem code_skip : codeE P n0 nt .skip Q te h = Q .normal te h := rfl
theorem code_reg : codeE P n0 nt (.reg false bef ops) Q te h = opsE P n0 nt Q ops te h := rfl
theorem code_draw : codeE P n0 nt (.reg true bef ops) Q te h = drawE P nt bef (Q .normal) ops te h := rfl
theorem code_seq {a b : RCode} : codeE P n0 nt (.seq a b) Q te h = codeE P n0 nt a (thenE (codeE P n0 nt b Q) Q) te h := rfl
def condK (P : Program) (n0 nt : Nat) (a b : RCode) (Q : QE) (te : AEnv) (h : Heap) (v : AV) : Prop := condE (codeE P n0 nt a Q te h) (codeE P n0 nt b Q te h) v
theorem code_cond {c : RO} {a b : RCode} : codeE P n0 nt (.cond c a b) Q te h = condK P n0 nt a b Q te h (evF te c) := rfl
theorem condK_t {a b : RCode} : condK P n0 nt a b Q te h (.bool true) = codeE P n0 nt a Q te h := by simp [condK, condE]
theorem condK_f {a b : RCode} : condK P n0 nt a b Q te h (.bool false) = codeE P n0 nt b Q te h := by simp [condK, condE]
theorem condK_split {a b : RCode} {t : Bool} (h1 : t = true → codeE P n0 nt a Q te h) (h2 : t = false → codeE P n0 nt b Q te h) : condK P n0 nt a b Q te h (.bool t) := ⟨h1, h2⟩
theorem code_block {id : Nat} {b : RCode} : codeE P n0 nt (.block id b) Q te h = codeE P n0 nt b (blockE id Q) te h := rfl
theorem code_exit {id : Nat} : codeE P n0 nt (.exit id) Q te h = Q (.exit id) te h := rfl
theorem code_ret : codeE P n0 nt .ret Q te h = Q .ret te h := rfl

theorem then_n {nx : AEnv → Heap → Prop} : thenE nx Q .normal te h = nx te h := rfl
theorem then_x {nx : AEnv → Heap → Prop} {i : Nat} : thenE nx Q (.exit i) te h = Q (.exit i) te h := rfl
theorem then_r {nx : AEnv → Heap → Prop} : thenE nx Q .ret te h = Q .ret te h := rfl
theorem then_p {nx : AEnv → Heap → Prop} {v : AV} : thenE nx Q (.panic v) te h = Q (.panic v) te h := rfl
theorem block_n {i : Nat} : blockE i Q .normal te h = Q .normal te h := rfl
theorem block_x {i j : Nat} : blockE i Q (.exit j) te h = if j = i then Q .normal te h else Q (.exit j) te h := rfl
theorem block_r {i : Nat} : blockE i Q .ret te h = Q .ret te h := rfl
theorem block_p {i : Nat} {v : AV} : blockE i Q (.panic v) te h = Q (.panic v) te h := rfl

-- a drawn region that only reads
theorem draw_rd {K : AEnv → Heap → Prop} (hr : rdE P nt K ops te h) : drawE P nt bef K ops te h := .inl hr
def rguardK (P : Program) (nt : Nat) (K : AEnv → Heap → Prop) (d : Option Nat) (op : ROp) (os : List ROper) (te : AEnv) (h : Heap) (want : Bool) (v : AV) : Prop :=
  guardE (rdOp P nt d op (fun te => rdE P nt K os te h) te h) (inF nt d = true ∧ rdE P nt K os (setF te d (.tup [])) h) want v
variable {K : AEnv → Heap → Prop} {os : List ROper}
theorem rd_nil : rdE P nt K [] te h = K te h := rfl
/-- One step of it. -/
def rstepK (P : Program) (nt : Nat) (K : AEnv → Heap → Prop) (d : Option Nat) (os : List ROper) (te : AEnv) (h : Heap) : Res → Prop := rdK (fun te => rdE P nt K os te h) nt d te
def rcallK (P : Program) (nt : Nat) (K : AEnv → Heap → Prop) (d : Option Nat) (f : RO) (args : List RO) (os : List ROper) (te : AEnv) (h : Heap) : Prop := rdCall P nt d f args (fun te => rdE P nt K os te h) te
theorem rd_call {f : RO} {args : List RO} : rdE P nt K (⟨d, none, .call f args⟩ :: os) te h = rcallK P nt K d f args os te h := rfl
theorem rd_g {op : ROp} {g : Nat} {w : Bool} : rdE P nt K (⟨d, some (g, w), op⟩ :: os) te h = rguardK P nt K d op os te h w (lookE te g) := rfl
theorem rstep_some {c : Bool} {v : AV} : rstepK P nt K d os te h (some (c, v, [])) = (inF nt d = true ∧ c = true ∧ rdE P nt K os (setF te d v) h) := by simp [rstepK, rdK]
theorem rstep_okv {v : AV} : rstepK P nt K d os te h (okv v) = (inF nt d = true ∧ rdE P nt K os (setF te d v) h) := by simp [rstepK, rdK, okv]
theorem rstep_oki {c : Bool} {v : AV} : rstepK P nt K d os te h (oki c v) = (inF nt d = true ∧ c = true ∧ rdE P nt K os (setF te d v) h) := by simp [rstepK, rdK, oki]
theorem rd_mv {x : RO} : rdE P nt K (⟨d, none, .mv x⟩ :: os) te h = rstepK P nt K d os te h (okv (evF te x)) := rfl
theorem rd_pick {c a b : RO} : rdE P nt K (⟨d, none, .pick c a b⟩ :: os) te h = rstepK P nt K d os te h (pickR (evF te c) (evF te a) (evF te b)) := rfl
theorem rd_build {z : List AV} {ps : List (Nat × Nat × RO)} : rdE P nt K (⟨d, none, .build z ps⟩ :: os) te h = rstepK P nt K d os te h (buildR (fillG (evF te) z ps)) := rfl
theorem rd_load {ag : Option Nat} {a : RO} : rdE P nt K (⟨d, none, .load ag a⟩ :: os) te h = rstepK P nt K d os te h (loadR h.at ag (evF te a)) := by
  show rstepK P nt K d os te h _ = _
  rw [run_load]
theorem rd_faddr {off : Nat} {a : RO} : rdE P nt K (⟨d, none, .faddr off a⟩ :: os) te h = rstepK P nt K d os te h (faddrR off (evF te a)) := by
  show rstepK P nt K d os te h _ = _
  rw [run_faddr]
theorem rd_fld {ag : Option Nat} {off : Nat} {x : RO} : rdE P nt K (⟨d, none, .fld ag off x⟩ :: os) te h = rstepK P nt K d os te h (fldR ag off (evF te x)) := by
  show rstepK P nt K d os te h _ = _
  rw [run_fld]
theorem rd_iaS {sz : Nat} {x i : RO} : rdE P nt K (⟨d, none, .iaS sz x i⟩ :: os) te h = rstepK P nt K d os te h (iaSR sz (evF te x) (evF te i)) := by
  show rstepK P nt K d os te h _ = _
  rw [run_iaS]
theorem rd_iaA {ln sz : Nat} {x i : RO} : rdE P nt K (⟨d, none, .iaA ln sz x i⟩ :: os) te h = rstepK P nt K d os te h (iaAR ln sz (evF te x) (evF te i)) := by
  show rstepK P nt K d os te h _ = _
  rw [run_iaA]
theorem rd_ixA {ln sz : Nat} {ag : Option Nat} {x i : RO} : rdE P nt K (⟨d, none, .ixA ln sz ag x i⟩ :: os) te h = rstepK P nt K d os te h (ixAR ln sz ag (evF te x) (evF te i)) := by
  show rstepK P nt K d os te h _ = _
  rw [run_ixA]
theorem rd_bin {op : BinOp} {x y : RO} : rdE P nt K (⟨d, none, .bin op x y⟩ :: os) te h = rstepK P nt K d os te h (binA op (evF te x) (evF te y)) := rfl
theorem rd_eq {neg : Bool} {ag : EqK} {x y : RO} : rdE P nt K (⟨d, none, .eq neg ag x y⟩ :: os) te h = rstepK P nt K d os te h (eqR neg (AV.eqv ag (evF te x) (evF te y))) := by
  show rstepK P nt K d os te h _ = _
  rw [run_eq]
theorem rd_un {op : UnOp} {x : RO} : rdE P nt K (⟨d, none, .un op x⟩ :: os) te h = rstepK P nt K d os te h (unR op (evF te x)) := by
  show rstepK P nt K d os te h _ = _
  rw [run_un]
theorem rd_len {k : Nat} {x : RO} : rdE P nt K (⟨d, none, .len k x⟩ :: os) te h = rstepK P nt K d os te h (lenR h.at k (evF te x)) := by
  show rstepK P nt K d os te h _ = _
  rw [run_len]

-- slots
theorem lookE_cons {k t : Nat} {v : AV} : lookE ((k, v) :: te) t = if k = t then v else lookE te t := by
  simp only [lookE]
  cases hb : Nat.beq k t with
  | true => rw [if_pos (Nat.eq_of_beq_eq_true hb)]; rfl
  | false => rw [if_neg (fun e => by subst e; rw [Nat.beq_refl] at hb; cases hb)]; rfl
theorem evF_t {t : Nat} : evF te (.t t) = lookE te t := rfl
theorem evF_c {v : AV} : evF te (.c v) = v := rfl
theorem setF_some {k : Nat} {v : AV} : setF te (some k) v = (k, v) :: te := rfl
theorem setF_none {v : AV} : setF te none v = te := rfl
theorem inF_some {k : Nat} : (inF nt (some k) = true) = (k < nt) := by show (Nat.blt k nt = true) = _; rw [Nat.blt_eq]
theorem inF_none : inF nt none = true := rfl
-- heaps
theorem at_nil {i : Nat} : Heap.at [] i = none := by simp [Heap.at]
theorem at_zero {k : Option Blk} {r : Heap} : Heap.at (k :: r) 0 = k := by simp [Heap.at]
theorem at_succ {k : Option Blk} {r : Heap} {i : Nat} : Heap.at (k :: r) (i + 1) = Heap.at r i := by simp [Heap.at]
theorem upd_nil {h : Heap} : h.upd [] = h := rfl
theorem upd_cons {h : Heap} {i : Nat} {k : Option Blk} {u : Upd} : h.upd ((i, k) :: u) = (h.set i k).upd u := rfl
theorem hset_nil {k : Option Blk} : Heap.set [] 0 k = [k] := rfl
theorem hset_zero {k k' : Option Blk} {r : Heap} : Heap.set (k :: r) 0 k' = k' :: r := by simp [Heap.set]
theorem hset_succ {k k' : Option Blk} {r : Heap} {i : Nat} : Heap.set (k :: r) (i + 1) k' = k :: Heap.set r i k' := by
  unfold Heap.set
  simp only [List.length_cons, Nat.add_lt_add_iff_right]
  split
  · simp
  · have : i + 1 - (r.length + 1) = i - r.length := by omega
    rw [this]; simp
-- parts
theorem part_zero {a : AV} {r : List AV} : part none (a :: r) 0 = some a := rfl
theorem part_succ {a : AV} {r : List AV} {i : Nat} : part none (a :: r) (i + 1) = part none r i := rfl
theorem part_many {n : Nat} {a : AV} {r : List AV} {off : Nat} (hl : off + n ≤ (a :: r).length) : part (some n) (a :: r) off = some (.agg (((a :: r).drop off).take n)) := by simp only [part, hl, if_true]
theorem part_some {n : Nat} {cs : List AV} {off : Nat} (hl : off + n ≤ cs.length) : part (some n) cs off = some (.agg ((cs.drop off).take n)) := by simp [part, hl]
theorem part_all {n : Nat} {cs : List AV} (hl : cs.length = n) : part (some n) cs 0 = some (.agg cs) := by subst hl; simp [part]

-- values' parts
theorem cells_agg {cs : List AV} : (AV.agg cs).cells = cs := rfl
theorem cells_int {k : IntKind} {n : Int} : (AV.int k n).cells = [.int k n] := rfl
theorem cells_bool {b : Bool} : (AV.bool b).cells = [.bool b] := rfl
theorem cells_str {b : ByteArray} : (AV.str b).cells = [.str b] := rfl
theorem cells_nilp : AV.nilp.cells = [.nilp] := rfl
theorem cells_ptr {i o : Nat} : (AV.ptr i o).cells = [.ptr i o] := rfl
theorem cells_vptr {c : List AV} {o : Nat} : (AV.vptr c o).cells = [.vptr c o] := rfl
theorem cells_nils : AV.nils.cells = [.nils] := rfl
theorem cells_emp : AV.emp.cells = [.emp] := rfl
theorem cells_lit {s : Nat} {es : List AV} : (AV.lit s es).cells = [.lit s es] := rfl
theorem cells_slice {a b c e : Nat} : (AV.slice a b c e).cells = [.slice a b c e] := rfl
theorem cells_nilmap : AV.nilmap.cells = [.nilmap] := rfl
theorem cells_mapr {i : Nat} : (AV.mapr i).cells = [.mapr i] := rfl
theorem cells_fn {f : Nat} {c : List AV} : (AV.fn f c).cells = [.fn f c] := rfl
theorem cells_nilfn : AV.nilfn.cells = [.nilfn] := rfl
theorem cells_nilif : AV.nilif.cells = [.nilif] := rfl
theorem cells_iface {t : Nat} {v : AV} : (AV.iface t v).cells = [.iface t v] := rfl
theorem val_agg {cs : List AV} : (AV.agg cs).val = cs.all AV.one := rfl
theorem val_int {k : IntKind} {n : Int} : (AV.int k n).val = true := rfl
theorem val_bool {b : Bool} : (AV.bool b).val = true := rfl
theorem val_str {b : ByteArray} : (AV.str b).val = true := rfl
theorem val_nilp : AV.nilp.val = true := rfl
theorem val_ptr {i o : Nat} : (AV.ptr i o).val = true := rfl
theorem val_vptr {c : List AV} {o : Nat} : (AV.vptr c o).val = true := rfl
theorem val_nils : AV.nils.val = true := rfl
theorem val_emp : AV.emp.val = true := rfl
theorem val_lit {s : Nat} {es : List AV} : (AV.lit s es).val = true := rfl
theorem val_slice {a b c e : Nat} : (AV.slice a b c e).val = true := rfl
theorem val_nilmap : AV.nilmap.val = true := rfl
theorem val_mapr {i : Nat} : (AV.mapr i).val = true := rfl
theorem val_fn {f : Nat} {c : List AV} : (AV.fn f c).val = true := rfl
theorem val_nilfn : AV.nilfn.val = true := rfl
theorem val_nilif : AV.nilif.val = true := rfl
theorem val_iface {t : Nat} {v : AV} : (AV.iface t v).val = true := rfl
theorem one_int {k : IntKind} {n : Int} : (AV.int k n).one = true := rfl
theorem one_bool {b : Bool} : (AV.bool b).one = true := rfl
theorem one_str {b : ByteArray} : (AV.str b).one = true := rfl
theorem one_nilp : AV.nilp.one = true := rfl
theorem one_ptr {i o : Nat} : (AV.ptr i o).one = true := rfl
theorem one_vptr {c : List AV} {o : Nat} : (AV.vptr c o).one = true := rfl
theorem one_nils : AV.nils.one = true := rfl
theorem one_emp : AV.emp.one = true := rfl
theorem one_lit {s : Nat} {es : List AV} : (AV.lit s es).one = true := rfl
theorem one_slice {a b c e : Nat} : (AV.slice a b c e).one = true := rfl
theorem one_nilmap : AV.nilmap.one = true := rfl
theorem one_mapr {i : Nat} : (AV.mapr i).one = true := rfl
theorem one_fn {f : Nat} {c : List AV} : (AV.fn f c).one = true := rfl
theorem one_nilfn : AV.nilfn.one = true := rfl
theorem one_nilif : AV.nilif.one = true := rfl
theorem one_iface {t : Nat} {v : AV} : (AV.iface t v).one = true := rfl
theorem fillG_nil {ev : RO → AV} {cs : List AV} : fillG ev cs [] = some (true, cs) := rfl
def fillC (b : Bool) : Option (Bool × List AV) → Option (Bool × List AV)
  | some (c, r) => some (b && c, r)
  | none => none
theorem fillC_some {b c : Bool} {r : List AV} : fillC b (some (c, r)) = some (b && c, r) := rfl
theorem fillG_cons {ev : RO → AV} {cs : List AV} {off size : Nat} {x : RO} {ps : List (Nat × Nat × RO)} :
    fillG ev cs ((off, size, x) :: ps) = if (ev x).cells.length = size ∧ off + size ≤ cs.length then fillC (ev x).val (fillG ev (overwrite cs off (ev x).cells) ps) else none := rfl
theorem overwrite_eq {a : AV} {cs : List AV} {off : Nat} {vs : List AV} : overwrite (a :: cs) off vs = (a :: cs).take off ++ vs ++ (a :: cs).drop (off + vs.length) := rfl
theorem overwrite_nil0 {vs : List AV} : overwrite [] 0 vs = vs := by simp [overwrite]
theorem resE_1 {r : RRes} : resE [r] te h = resE1 te h r := by
  unfold resE resEs resEs
  cases resE1 te h r <;> rfl
def resT : Option (List AV) → Option AV
  | some vs => some (.tup vs)
  | none => none
theorem resT_some {vs : List AV} : resT (some vs) = some (.tup vs) := rfl
theorem resE_2 {r r' : RRes} {rs : List RRes} : resE (r :: r' :: rs) te h = resT (resEs te h (r :: r' :: rs)) := by
  unfold resE
  simp only [resEs]
  cases resE1 te h r <;> cases resE1 te h r' <;> cases resEs te h rs <;> rfl
def resC : Option AV → Option (List AV) → Option (List AV)
  | some v, some vs => some (v :: vs)
  | _, _ => none
theorem resC_some {v : AV} {vs : List AV} : resC (some v) (some vs) = some (v :: vs) := rfl
theorem resE_0 : resE [] te h = some (.tup []) := rfl
theorem resEs_nil : resEs te h [] = some [] := rfl
theorem resEs_cons {r : RRes} {rs : List RRes} : resEs te h (r :: rs) = resC (resE1 te h r) (resEs te h rs) := rfl
def resL (hat : Nat → Option Blk) (ag : Option Nat) : AV → Option AV
  | .ptr id off => match hat id with
    | some (.cells cs) => part ag cs off
    | _ => none
  | .vptr cs off => part ag cs off
  | _ => none
def resB (ag : Option Nat) (off : Nat) : Option Blk → Option AV
  | some (.cells cs) => part ag cs off
  | _ => none
theorem resB_some {ag : Option Nat} {off : Nat} {cs : List AV} : resB ag off (some (.cells cs)) = part ag cs off := rfl
theorem resL_ptr {hat : Nat → Option Blk} {ag : Option Nat} {id off : Nat} : resL hat ag (.ptr id off) = resB ag off (hat id) := rfl
theorem resL_vptr {hat : Nat → Option Blk} {ag : Option Nat} {cs : List AV} {off : Nat} : resL hat ag (.vptr cs off) = part ag cs off := rfl
theorem resE1_t {n : Nat} : resE1 te h (.t n) = some (lookE te n) := rfl
theorem resE1_cell {n : Nat} {ag : Option Nat} : resE1 te h (.cell n ag) = resL h.at ag (lookE te n) := rfl
theorem ret_r {rs : List RRes} {R : Out → Heap → Prop} {v : AV} (hv : resE rs te h = some v) (hR : R (.ret v) h) : retE n0 nt rs R .ret te h := ⟨te, h, v, WkE.refl, hv, hR⟩
theorem ret_n {rs : List RRes} {R : Out → Heap → Prop} {v : AV} (hv : resE rs te h = some v) (hR : R (.ret v) h) : retE n0 nt rs R .normal te h := ⟨te, h, v, WkE.refl, hv, hR⟩
theorem ret_p {rs : List RRes} {R : Out → Heap → Prop} {v : AV} : retE n0 nt rs R (.panic v) te h = R (.pan v) h := rfl
end
attribute [go_sem] opsE_nil opsE_n opsE_g guardK_tt guardK_ff guardK_tf guardK_ft guardK_tup opE_call opE_panic opE_isnil opE_isnil2 opE_isnil3 opE_isnil4 opE_isnil5 stepK_some stepK_okv stepK_oki opE_mv opE_pick pickR_bb pickR_t pickR_f opE_alloc opE_box buildR_some opE_build bsliceR_some opE_bslice partR_some cellR_some loadR_ptr loadR_vptr opE_load storeC_some storeR_ptr opE_store faddrR_ptr faddrR_vptr opE_faddr fldR_agg opE_fld iaSR_lit iaSR_slice opE_iaS iaAR_ptr iaAR_vptr opE_iaA ckR_some ixAR_agg opE_ixA opE_bin eqR_f eqR_t opE_eq unR_not unR_neg opE_un convR_int opE_conv extR_tup opE_ext opE_mkfn opE_mkif opE_mkmap lenM_some lenR_str lenR_nils lenR_emp lenR_lit lenR_slice lenR_nilmap lenR_mapr opE_len bin_add bin_sub bin_mul bin_quo bin_rem bin_eql bin_neq bin_lss bin_leq bin_gtr bin_geq eqv_i eqv_b eqv_s code_skip code_reg code_seq code_cond condK_t condK_f code_block code_exit code_ret then_n then_x then_r then_p block_n block_x block_r block_p rd_nil rd_call rd_g rstep_some rstep_okv rstep_oki rd_mv rd_pick rd_build rd_load rd_faddr rd_fld rd_iaS rd_iaA rd_ixA rd_bin rd_eq rd_un rd_len lookE_cons evF_t evF_c setF_some setF_none inF_some inF_none at_nil at_zero at_succ upd_nil upd_cons hset_nil hset_zero hset_succ part_zero part_succ part_many cells_agg cells_int cells_bool cells_str cells_nilp cells_ptr cells_vptr cells_nils cells_emp cells_lit cells_slice cells_nilmap cells_mapr cells_fn cells_nilfn cells_nilif cells_iface val_agg val_int val_bool val_str val_nilp val_ptr val_vptr val_nils val_emp val_lit val_slice val_nilmap val_mapr val_fn val_nilfn val_nilif val_iface one_int one_bool one_str one_nilp one_ptr one_vptr one_nils one_emp one_lit one_slice one_nilmap one_mapr one_fn one_nilfn one_nilif one_iface fillG_nil fillC_some fillG_cons overwrite_eq overwrite_nil0 resE_1 resT_some resE_2 resC_some resE_0 resEs_nil resEs_cons resB_some resL_ptr resL_vptr resE1_t resE1_cell ret_p
attribute [go_sem] Nat.le_refl numF cond_true cond_false List.length_cons List.length_nil List.getElem?_cons_zero List.getElem?_cons_succ List.map_cons List.map_nil List.cons_append List.nil_append List.append_nil List.drop_succ_cons List.drop_zero List.take_succ_cons List.take_zero List.all_cons List.all_nil Bool.and_true Bool.true_and Bool.and_self Bool.not_true Bool.not_false true_and and_true and_self decide_eq_true_eq List.replicate_zero List.replicate_succ List.flatten_cons List.flatten_nil List.drop_nil List.take_nil
end Go.AM

namespace Go.AM

/-! A region that draws its order and writes: walked in the order of the text; what touched what is told in a log, which is looked at in the end. -/

def visB (bef : List Nat) (i : Nat) (log : List LogE) (f : Option (List Nat)) : Bool :=
  match f with
  | none => (masked bef i log 0).isEmpty
  | some ps => ps.all fun p => !(masked bef i log 0).contains p
def okAt (bef : List Nat) (log : List LogE) (i : Nat) : Bool :=
  match log[i]? with
  | some l => visB bef i (log.take i) l.rd && l.tc.all fun p => decide (l.lo ≤ p) || wchkB bef i (log.take i) p
  | none => true
def okLog (bef : List Nat) (log : List LogE) : Bool := (List.range log.length).all (okAt bef log)

def footE (te : AEnv) : ROp → Option (List Nat)
  | .load _ a => some (evF te a).idOf
  | .store _ a _ => some (evF te a).idOf
  | .slcA _ _ x => some (evF te x).idOf
  | .clr _ _ x => some (evF te x).idOf
  | .len _ x => some (evF te x).idOf
  | .look _ _ _ m _ => some (evF te m).idOf
  | .mupd _ m _ _ => some (evF te m).idOf
  | .app _ _ s x => some ((evF te s).idOf ++ (evF te x).idOf)
  | .call f as => if (evF te f).noId && noIdL (as.map (evF te)) then some [] else none
  | _ => some []

variable (P : Program) (nt : Nat) (bef : List Nat) (K : AEnv → Heap → Prop)

def sdStep (next : List LogE → AEnv → Heap → Prop) (d : Option Nat) (log : List LogE) (te : AEnv) (h : Heap) (f : Option (List Nat)) : Res → Prop
  | some (c, v, u) => inF nt d = true ∧ c = true ∧ next (log ++ [⟨f, h.length, (h.upd u).length, u.map (·.1)⟩]) (setF te d v) (h.upd u)
  | none => False

/-- A call that keeps the blocks, and makes some at the end. -/
def sdCall (next : List LogE → AEnv → Heap → Prop) (d : Option Nat) (f : RO) (args : List RO) (log : List LogE) (te : AEnv) (h : Heap) : Prop :=
  inF nt d = true ∧ ∃ k caps v, evF te f = .fn k caps ∧ pureL (args.map (evF te) ++ caps) = true ∧ v.pure = true ∧ CallsA P k (args.map (evF te) ++ caps) [] (fun o _ => o = .ret v) ∧
    next (log ++ [⟨some [], h.length, h.length, []⟩]) (setF te d v) h

def sdOp (next : List LogE → AEnv → Heap → Prop) (d : Option Nat) (op : ROp) (log : List LogE) (te : AEnv) (h : Heap) : Prop :=
  match op with
  | .call f args => sdCall P nt next d f args log te h
  | .panic _ => False
  | r => sdStep nt next d log te h (footE te r) (r.runG (evF te) h.at h.length)

def sdE : List ROper → List LogE → AEnv → Heap → Prop
  | [], log, te, h => okLog bef log = true ∧ K te h
  | o :: os, log, te, h => match o.guard with
    | none => sdOp P nt (sdE os) o.dst o.op log te h
    | some (g, want) => guardE (sdOp P nt (sdE os) o.dst o.op log te h) (inF nt o.dst = true ∧ sdE os (log ++ [⟨footE te o.op, h.length, h.length, []⟩]) (setF te o.dst (.tup [])) h) want (lookE te g)

section
variable {P : Program} {nt : Nat} {bef : List Nat} {K : AEnv → Heap → Prop}

theorem footE_rep {te : AEnv} {env : List AV} (r : RepE nt te env) (op : ROp) : footE te op = op.foot env := by
  cases op <;> simp only [footE, ROp.foot, r.ev]

theorem sdE_log : ∀ (os : List ROper) (log : List LogE) (te : AEnv) (h : Heap), sdE P nt bef K os log te h → ∃ rest, okLog bef (log ++ rest) = true
  | [], log, te, h, hw => ⟨[], by simpa using hw.1⟩
  | o :: os, log, te, h, hw => by
    have ih := sdE_log os
    have step : ∀ l te h, sdE P nt bef K os (log ++ [l]) te h → ∃ rest, okLog bef (log ++ rest) = true := by
      intro l te h hw
      obtain ⟨rest, hr⟩ := ih _ _ _ hw
      exact ⟨l :: rest, by simpa using hr⟩
    have go : sdOp P nt (sdE P nt bef K os) o.dst o.op log te h → ∃ rest, okLog bef (log ++ rest) = true := by
      intro hg
      unfold sdOp at hg
      split at hg
      · obtain ⟨_, _, _, _, _, _, _, _, hn⟩ := hg
        exact step _ _ _ hn
      · exact hg.elim
      · unfold sdStep at hg
        split at hg
        · exact step _ _ _ hg.2.2
        · exact hg.elim
    unfold sdE at hw
    split at hw
    · exact go hw
    · unfold guardE at hw
      split at hw
      · rename_i b _
        rename_i want _ _ _
        cases hb : (b == want) with
        | true => exact go (hw.1 hb)
        | false => exact step _ _ _ (hw.2 hb).2
      · exact step _ _ _ hw.2
      · exact hw.elim

theorem okLog_at {log rest : List LogE} {l : LogE} (h : okLog bef (log ++ l :: rest) = true) : visB bef log.length log l.rd = true ∧ l.tc.all (fun p => decide (l.lo ≤ p) || wchkB bef log.length log p) = true := by
  unfold okLog at h
  have := (List.all_eq_true.1 h) log.length (by simp)
  unfold okAt at this
  rw [List.getElem?_append_right (Nat.le_refl _)] at this
  simp only [Nat.sub_self, List.getElem?_cons_zero, List.take_left', Bool.and_eq_true] at this
  exact this

theorem run_at {env : List AV} {h h' : Heap} {n : Nat} (op : ROp) (he : ∀ p, h.at p = h'.at p) : op.run env h n = op.run env h' n := by
  rw [← runG_eq env h n op, ← runG_eq env h' n op]
  have : h.at = h'.at := funext he
  rw [this]

theorem run_vw {env : List AV} {h : Heap} {n i : Nat} {log : List LogE} (op : ROp) (hv : visB bef i log (op.foot env) = true) : op.run env (vw bef i log (op.foot env) h) n = op.run env h n := by
  rw [← run_only env h n op]
  refine run_at op fun p => ?_
  unfold vw
  cases hf : op.foot env with
  | none =>
    rw [hf] at hv
    simp only [visB, List.isEmpty_iff] at hv
    simp only [only, hv, mask, List.isEmpty_nil, if_true]
  | some ps =>
    rw [hf] at hv
    simp only [visB, List.all_eq_true] at hv
    simp only [only]
    rw [onlyAux_at, onlyAux_at]
    split
    · rename_i hc
      have hp := hv p (by simpa using hc)
      rw [mask_at]
      simp only [Bool.not_eq_true'] at hp
      rw [hp]; rfl
    · rfl

theorem sdE_sound {KA : List AV → Heap → Prop} (hK : ∀ te env h, RepE nt te env → K te h → KA env h) : ∀ (os : List ROper) (log : List LogE) (te : AEnv) (env : List AV) (h : Heap), RepE nt te env → sdE P nt bef K os log te h → DrawOK P bef KA os log.length log env h
  | [], log, te, env, h, r, hw => hK te env h r hw.2
  | o :: os, log, te, env, h, r, hw => by
    have ih := fun (l : LogE) (te : AEnv) (env : List AV) (h : Heap) (r : RepE nt te env) (hw : sdE P nt bef K os (log ++ [l]) te h) => sdE_sound hK os (log ++ [l]) te env h r hw
    simp only [List.length_append, List.length_cons, List.length_nil, Nat.zero_add] at ih
    have chk : ∀ (l : LogE) (te : AEnv) (h : Heap), sdE P nt bef K os (log ++ [l]) te h → visB bef log.length log l.rd = true ∧ l.tc.all (fun p => decide (l.lo ≤ p) || wchkB bef log.length log p) = true := by
      intro l te h hw
      obtain ⟨rest, hr⟩ := sdE_log _ _ _ _ hw
      exact okLog_at (rest := rest) (by simpa using hr)
    have go : sdOp P nt (sdE P nt bef K os) o.dst o.op log te h → drawGo P bef KA o os log.length log env h := by
      intro hg
      unfold drawGo
      unfold sdOp at hg
      split at hg
      · rename_i f args hop
        rw [hop]
        obtain ⟨hd, k, caps, v, hf, hp, hv, hc, hn⟩ := hg
        rw [r.ev] at hf hp hc
        simp only [hf]
        have hfoot : (ROp.call f args).foot env = some [] := by
          simp only [ROp.foot, hf]
          rw [pureL_all, List.all_append, Bool.and_eq_true, ← pureL_all, ← pureL_all] at hp
          simp only [AV.noId, noIdL_of_pure _ hp.1, noIdL_of_pure _ hp.2, Bool.and_self, if_true]
        rw [hfoot]
        refine ⟨v, [], [], ?_, rfl, ?_, ?_⟩
        · refine (hc.lift hp hv _).mono ?_
          rintro out k' ⟨rfl, rfl⟩
          exact ⟨rfl, rfl⟩
        · rw [bndL_of_pure _ _ hp]
          have : heapBnd h.length (vw bef log.length log (some []) h) = true := heapBnd_only_nil _ _
          rw [this]; rfl
        · exact ih _ _ _ _ (r.set hd v) hn
      · exact hg.elim
      · rename_i n1 n2
        rw [runG_rep r, footE_rep r] at hg
        split
        · rename_i x hop; exact absurd hop (n2 x)
        · rename_i f a hop; exact absurd hop (n1 f a)
        · cases hr : o.op.run env h h.length with
          | none => rw [hr] at hg; exact hg.elim
          | some p =>
            obtain ⟨c, v, u⟩ := p
            rw [hr] at hg
            obtain ⟨hd, rfl, hn⟩ := hg
            obtain ⟨q1, q2⟩ := chk _ _ _ hn
            rw [run_vw o.op q1, hr]
            exact ⟨rfl, q2, ih _ _ _ _ (r.set hd v) hn⟩
    unfold sdE at hw
    rw [DrawOK_cons]
    cases hgd : o.guard with
    | none =>
      rw [hgd] at hw
      exact go hw
    | some p =>
      obtain ⟨g, want⟩ := p
      rw [hgd] at hw
      simp only at hw ⊢
      rw [r.get g, footE_rep r] at hw
      unfold guardE at hw
      split at hw
      · exact ⟨fun e => go (hw.1 e), fun e => ih _ _ _ _ (r.set (hw.2 e).1 _) (hw.2 e).2⟩
      · exact ih _ _ _ _ (r.set hw.1 _) hw.2
      · exact hw.elim

theorem draw_sd {ops : List ROper} {te : AEnv} {h : Heap} (hw : sdE P nt bef K ops [] te h) : drawE P nt bef K ops te h :=
  .inr fun env r => by
    have := sdE_sound (P := P) (bef := bef) (K := K) (KA := fun env h => ∃ te, RepE nt te env ∧ K te h) (fun te env h r hk => ⟨te, r, hk⟩) ops [] te env h r hw
    exact this

-- equations
variable {d : Option Nat} {os : List ROper} {log : List LogE} {te : AEnv} {h : Heap}
theorem sd_nil : sdE P nt bef K [] log te h = (okLog bef log = true ∧ K te h) := rfl
def sdK (P : Program) (nt : Nat) (bef : List Nat) (K : AEnv → Heap → Prop) (d : Option Nat) (os : List ROper) (log : List LogE) (te : AEnv) (h : Heap) (f : Option (List Nat)) : Res → Prop := sdStep nt (sdE P nt bef K os) d log te h f
def sdCK (P : Program) (nt : Nat) (bef : List Nat) (K : AEnv → Heap → Prop) (d : Option Nat) (f : RO) (args : List RO) (os : List ROper) (log : List LogE) (te : AEnv) (h : Heap) : Prop := sdCall P nt (sdE P nt bef K os) d f args log te h
def sdGK (P : Program) (nt : Nat) (bef : List Nat) (K : AEnv → Heap → Prop) (d : Option Nat) (op : ROp) (os : List ROper) (log : List LogE) (te : AEnv) (h : Heap) (want : Bool) (v : AV) : Prop :=
  guardE (sdOp P nt (sdE P nt bef K os) d op log te h) (inF nt d = true ∧ sdE P nt bef K os (log ++ [⟨footE te op, h.length, h.length, []⟩]) (setF te d (.tup [])) h) want v
theorem sdK_some {c : Bool} {v : AV} {u : Upd} {f : Option (List Nat)} : sdK P nt bef K d os log te h f (some (c, v, u)) = (inF nt d = true ∧ c = true ∧ sdE P nt bef K os (log ++ [⟨f, h.length, (h.upd u).length, u.map (·.1)⟩]) (setF te d v) (h.upd u)) := rfl
theorem sdK_okv {v : AV} {f : Option (List Nat)} : sdK P nt bef K d os log te h f (okv v) = (inF nt d = true ∧ sdE P nt bef K os (log ++ [⟨f, h.length, h.length, []⟩]) (setF te d v) h) := by simp [sdK, sdStep, okv, Heap.upd]
theorem sdK_oki {c : Bool} {v : AV} {f : Option (List Nat)} : sdK P nt bef K d os log te h f (oki c v) = (inF nt d = true ∧ c = true ∧ sdE P nt bef K os (log ++ [⟨f, h.length, h.length, []⟩]) (setF te d v) h) := by simp [sdK, sdStep, oki, Heap.upd]
theorem sd_g {op : ROp} {g : Nat} {w : Bool} : sdE P nt bef K (⟨d, some (g, w), op⟩ :: os) log te h = sdGK P nt bef K d op os log te h w (lookE te g) := rfl
theorem sdGK_tt {op : ROp} : sdGK P nt bef K d op os log te h true (.bool true) = sdE P nt bef K (⟨d, none, op⟩ :: os) log te h := by simp [sdGK, guardE, sdE]
theorem sdGK_ff {op : ROp} : sdGK P nt bef K d op os log te h false (.bool false) = sdE P nt bef K (⟨d, none, op⟩ :: os) log te h := by simp [sdGK, guardE, sdE]
theorem sdGK_tf {op : ROp} : sdGK P nt bef K d op os log te h true (.bool false) = (inF nt d = true ∧ sdE P nt bef K os (log ++ [⟨footE te op, h.length, h.length, []⟩]) (setF te d (.tup [])) h) := by simp [sdGK, guardE]
theorem sdGK_ft {op : ROp} : sdGK P nt bef K d op os log te h false (.bool true) = (inF nt d = true ∧ sdE P nt bef K os (log ++ [⟨footE te op, h.length, h.length, []⟩]) (setF te d (.tup [])) h) := by simp [sdGK, guardE]
theorem sdGK_tup {op : ROp} {w : Bool} {vs : List AV} : sdGK P nt bef K d op os log te h w (.tup vs) = (inF nt d = true ∧ sdE P nt bef K os (log ++ [⟨footE te op, h.length, h.length, []⟩]) (setF te d (.tup [])) h) := rfl
theorem sdGK_split {op : ROp} {w b : Bool} (h1 : b = w → sdE P nt bef K (⟨d, none, op⟩ :: os) log te h) (h2 : b = (!w) → inF nt d = true ∧ sdE P nt bef K os (log ++ [⟨footE te op, h.length, h.length, []⟩]) (setF te d (.tup [])) h) : sdGK P nt bef K d op os log te h w (.bool b) := by
  refine ⟨fun e => h1 (by simpa using e), fun e => h2 ?_⟩
  cases b <;> cases w <;> simp_all
theorem sd_call {f : RO} {args : List RO} : sdE P nt bef K (⟨d, none, .call f args⟩ :: os) log te h = sdCK P nt bef K d f args os log te h := rfl
theorem sd_mv {x : RO} : sdE P nt bef K (⟨d, none, .mv x⟩ :: os) log te h = sdK P nt bef K d os log te h (some []) (okv (evF te x)) := rfl
theorem sd_pick {c a b : RO} : sdE P nt bef K (⟨d, none, .pick c a b⟩ :: os) log te h = sdK P nt bef K d os log te h (some []) (pickR (evF te c) (evF te a) (evF te b)) := rfl
theorem sd_alloc {z : List AV} : sdE P nt bef K (⟨d, none, .alloc z⟩ :: os) log te h = sdK P nt bef K d os log te h (some []) (some (z.all AV.one, .ptr h.length 0, [(h.length, some (.cells z))])) := rfl
theorem sd_box {x : RO} : sdE P nt bef K (⟨d, none, .box x⟩ :: os) log te h = sdK P nt bef K d os log te h (some []) (some ((evF te x).val, .ptr h.length 0, [(h.length, some (.cells (evF te x).cells))])) := rfl
theorem sd_build {z : List AV} {ps : List (Nat × Nat × RO)} : sdE P nt bef K (⟨d, none, .build z ps⟩ :: os) log te h = sdK P nt bef K d os log te h (some []) (buildR (fillG (evF te) z ps)) := rfl
theorem sd_bslice {sz ln : Nat} {z : List AV} {ps : List (Nat × RO)} : sdE P nt bef K (⟨d, none, .bslice sz ln z ps⟩ :: os) log te h = sdK P nt bef K d os log te h (some []) (bsliceR h.length sz ln z (fillG (evF te) ((List.replicate ln z).flatten) (ps.map fun x => (x.1 * sz, sz, x.2)))) := rfl
theorem sd_load {ag : Option Nat} {a : RO} : sdE P nt bef K (⟨d, none, .load ag a⟩ :: os) log te h = sdK P nt bef K d os log te h (some (evF te a).idOf) (loadR h.at ag (evF te a)) := by
  show sdK P nt bef K d os log te h _ _ = _
  rw [run_load]; rfl
theorem sd_store {n : Nat} {a x : RO} : sdE P nt bef K (⟨d, none, .store n a x⟩ :: os) log te h = sdK P nt bef K d os log te h (some (evF te a).idOf) (storeR h.at n (evF te x) (evF te a)) := by
  show sdK P nt bef K d os log te h _ _ = _
  rw [run_store]; rfl
theorem sd_faddr {off : Nat} {a : RO} : sdE P nt bef K (⟨d, none, .faddr off a⟩ :: os) log te h = sdK P nt bef K d os log te h (some []) (faddrR off (evF te a)) := by
  show sdK P nt bef K d os log te h _ _ = _
  rw [run_faddr]; rfl
theorem sd_fld {ag : Option Nat} {off : Nat} {x : RO} : sdE P nt bef K (⟨d, none, .fld ag off x⟩ :: os) log te h = sdK P nt bef K d os log te h (some []) (fldR ag off (evF te x)) := by
  show sdK P nt bef K d os log te h _ _ = _
  rw [run_fld]; rfl
theorem sd_iaS {sz : Nat} {x i : RO} : sdE P nt bef K (⟨d, none, .iaS sz x i⟩ :: os) log te h = sdK P nt bef K d os log te h (some []) (iaSR sz (evF te x) (evF te i)) := by
  show sdK P nt bef K d os log te h _ _ = _
  rw [run_iaS]; rfl
theorem sd_iaA {ln sz : Nat} {x i : RO} : sdE P nt bef K (⟨d, none, .iaA ln sz x i⟩ :: os) log te h = sdK P nt bef K d os log te h (some []) (iaAR ln sz (evF te x) (evF te i)) := by
  show sdK P nt bef K d os log te h _ _ = _
  rw [run_iaA]; rfl
theorem sd_ixA {ln sz : Nat} {ag : Option Nat} {x i : RO} : sdE P nt bef K (⟨d, none, .ixA ln sz ag x i⟩ :: os) log te h = sdK P nt bef K d os log te h (some []) (ixAR ln sz ag (evF te x) (evF te i)) := by
  show sdK P nt bef K d os log te h _ _ = _
  rw [run_ixA]; rfl
theorem sd_bin {op : BinOp} {x y : RO} : sdE P nt bef K (⟨d, none, .bin op x y⟩ :: os) log te h = sdK P nt bef K d os log te h (some []) (binA op (evF te x) (evF te y)) := rfl
theorem sd_eq {neg : Bool} {ag : EqK} {x y : RO} : sdE P nt bef K (⟨d, none, .eq neg ag x y⟩ :: os) log te h = sdK P nt bef K d os log te h (some []) (eqR neg (AV.eqv ag (evF te x) (evF te y))) := by
  show sdK P nt bef K d os log te h _ _ = _
  rw [run_eq]; rfl
theorem sd_un {op : UnOp} {x : RO} : sdE P nt bef K (⟨d, none, .un op x⟩ :: os) log te h = sdK P nt bef K d os log te h (some []) (unR op (evF te x)) := by
  show sdK P nt bef K d os log te h _ _ = _
  rw [run_un]; rfl
theorem sd_conv {k : IntKind} {x : RO} : sdE P nt bef K (⟨d, none, .conv k x⟩ :: os) log te h = sdK P nt bef K d os log te h (some []) (convR k (evF te x)) := rfl
theorem sd_ext {x : RO} {i : Nat} : sdE P nt bef K (⟨d, none, .ext x i⟩ :: os) log te h = sdK P nt bef K d os log te h (some []) (extR i (evF te x)) := rfl
theorem sd_len {k : Nat} {x : RO} : sdE P nt bef K (⟨d, none, .len k x⟩ :: os) log te h = sdK P nt bef K d os log te h (some (evF te x).idOf) (lenR h.at k (evF te x)) := by
  show sdK P nt bef K d os log te h _ _ = _
  rw [run_len]; rfl
-- appending
def sliceR (hat : Nat → Option Blk) (sz : Nat) : AV → Option (Nat × List AV) := sliceG hat sz
def sliceB (off len sz : Nat) : Option Blk → Option (Nat × List AV)
  | some (.cells cs) => if off + len * sz ≤ cs.length then some (len, (cs.drop off).take (len * sz)) else none
  | _ => none
theorem sliceB_some {off len sz : Nat} {cs : List AV} : sliceB off len sz (some (.cells cs)) = if off + len * sz ≤ cs.length then some (len, (cs.drop off).take (len * sz)) else none := rfl
theorem sliceR_nils {hat : Nat → Option Blk} {sz : Nat} : sliceR hat sz .nils = some (0, []) := rfl
theorem sliceR_emp {hat : Nat → Option Blk} {sz : Nat} : sliceR hat sz .emp = some (0, []) := rfl
theorem sliceR_lit {hat : Nat → Option Blk} {sz : Nat} {es : List AV} : sliceR hat sz (.lit sz es) = some (es.length, es.flatMap AV.cells) := by simp [sliceR, sliceG]
theorem sliceR_slice {hat : Nat → Option Blk} {sz id off len : Nat} : sliceR hat sz (.slice id off len sz) = sliceB off len sz (hat id) := by simp only [sliceR, sliceG, if_true]; rfl
def appB (n sz bytes m : Nat) (news : List AV) (id off ln : Nat) : Option Blk → Res
  | some (.cells cs) => if off + ln * sz ≤ cs.length then
      some (decide ((ln + m) * bytes ≤ 140737488355328), .slice n 0 (ln + m) sz, [(id, none), (n, some (.cells ((cs.drop off).take (ln * sz) ++ news)))]) else none
  | _ => none
theorem appB_some {n sz bytes m : Nat} {news : List AV} {id off ln : Nat} {cs : List AV} : appB n sz bytes m news id off ln (some (.cells cs)) = if off + ln * sz ≤ cs.length then
      some (decide ((ln + m) * bytes ≤ 140737488355328), .slice n 0 (ln + m) sz, [(id, none), (n, some (.cells ((cs.drop off).take (ln * sz) ++ news)))]) else none := rfl
def app2 (hat : Nat → Option Blk) (n sz bytes m : Nat) (news : List AV) : AV → Res
  | .nils => if m = 0 then okv .nils else some (decide (m * bytes ≤ 140737488355328), .slice n 0 m sz, [(n, some (.cells news))])
  | .emp => if m = 0 then okv .emp else some (decide (m * bytes ≤ 140737488355328), .slice n 0 m sz, [(n, some (.cells news))])
  | .slice id off ln sz' => if sz' = sz then appB n sz bytes m news id off ln (hat id) else none
  | _ => none
theorem app2_nils {hat : Nat → Option Blk} {n sz bytes m : Nat} {news : List AV} : app2 hat n sz bytes m news .nils = if m = 0 then okv .nils else some (decide (m * bytes ≤ 140737488355328), .slice n 0 m sz, [(n, some (.cells news))]) := rfl
theorem app2_emp {hat : Nat → Option Blk} {n sz bytes m : Nat} {news : List AV} : app2 hat n sz bytes m news .emp = if m = 0 then okv .emp else some (decide (m * bytes ≤ 140737488355328), .slice n 0 m sz, [(n, some (.cells news))]) := rfl
theorem app2_slice {hat : Nat → Option Blk} {n sz bytes m : Nat} {news : List AV} {id off ln : Nat} : app2 hat n sz bytes m news (.slice id off ln sz) = appB n sz bytes m news id off ln (hat id) := by simp [app2]
def app1 (hat : Nat → Option Blk) (n sz bytes : Nat) (s : AV) : Option (Nat × List AV) → Res
  | some (m, news) => app2 hat n sz bytes m news s
  | none => none
theorem app1_some {hat : Nat → Option Blk} {n sz bytes : Nat} {s : AV} {m : Nat} {news : List AV} : app1 hat n sz bytes s (some (m, news)) = app2 hat n sz bytes m news s := rfl
theorem run_app {ev : RO → AV} {hat : Nat → Option Blk} {n sz bytes : Nat} {s x : RO} : (ROp.app sz bytes s x).runG ev hat n = app1 hat n sz bytes (ev s) (sliceR hat sz (ev x)) := by
  simp only [ROp.runG, app1, sliceR]
  cases sliceG hat sz (ev x) with
  | none => rfl
  | some p =>
    obtain ⟨m, news⟩ := p
    simp only [app2]
    cases ev s <;> rfl
variable {n0 : Nat} {Q : QE} {next : AEnv → Heap → Prop}
theorem opE_app {sz bytes : Nat} {s x : RO} : opE P n0 nt Q d (.app sz bytes s x) next te h = stepK next nt d te h (app1 h.at h.length sz bytes (evF te s) (sliceR h.at sz (evF te x))) := by
  show stepK next nt d te h _ = _
  rw [run_app]
theorem sd_app {sz bytes : Nat} {s x : RO} : sdE P nt bef K (⟨d, none, .app sz bytes s x⟩ :: os) log te h = sdK P nt bef K d os log te h (some ((evF te s).idOf ++ (evF te x).idOf)) (app1 h.at h.length sz bytes (evF te s) (sliceR h.at sz (evF te x))) := by
  show sdK P nt bef K d os log te h _ _ = _
  rw [run_app]; rfl
def mkslR (n sz bytes : Nat) (z : List AV) : AV → AV → Res
  | .int .i64 a, .int .i64 b => if a = b then
        some (decide (0 ≤ a ∧ a * bytes ≤ 140737488355328) && z.all AV.one, .slice n 0 a.toNat sz, [(n, some (.cells ((List.replicate a.toNat z).flatten)))])
      else none
  | _, _ => none
theorem mkslR_i {n sz bytes : Nat} {z : List AV} {a : Int} : mkslR n sz bytes z (.int .i64 a) (.int .i64 a) = some (decide (0 ≤ a ∧ a * bytes ≤ 140737488355328) && z.all AV.one, .slice n 0 a.toNat sz, [(n, some (.cells ((List.replicate a.toNat z).flatten)))]) := by simp [mkslR]
theorem run_mksl {ev : RO → AV} {hat : Nat → Option Blk} {n sz bytes : Nat} {z : List AV} {l c : RO} : (ROp.mkslice sz bytes z l c).runG ev hat n = mkslR n sz bytes z (ev l) (ev c) := by
  simp only [ROp.runG, mkslR]
  cases ev l <;> cases ev c <;> rfl
theorem opE_mksl {sz bytes : Nat} {z : List AV} {l c : RO} : opE P n0 nt Q d (.mkslice sz bytes z l c) next te h = stepK next nt d te h (mkslR h.length sz bytes z (evF te l) (evF te c)) := by
  show stepK next nt d te h _ = _
  rw [run_mksl]
theorem sd_mksl {sz bytes : Nat} {z : List AV} {l c : RO} : sdE P nt bef K (⟨d, none, .mkslice sz bytes z l c⟩ :: os) log te h = sdK P nt bef K d os log te h (some []) (mkslR h.length sz bytes z (evF te l) (evF te c)) := by
  show sdK P nt bef K d os log te h _ _ = _
  rw [run_mksl]; rfl
theorem idOf_ptr {i o : Nat} : (AV.ptr i o).idOf = [i] := rfl
theorem idOf_slice {i o l s : Nat} : (AV.slice i o l s).idOf = [i] := rfl
theorem idOf_mapr {i : Nat} : (AV.mapr i).idOf = [i] := rfl
theorem idOf_vptr {c : List AV} {o : Nat} : (AV.vptr c o).idOf = [] := rfl
theorem idOf_lit {s : Nat} {es : List AV} : (AV.lit s es).idOf = [] := rfl
theorem idOf_nils : AV.nils.idOf = [] := rfl
theorem idOf_emp : AV.emp.idOf = [] := rfl
theorem idOf_undef : AV.undef.idOf = [] := rfl
theorem idOf_tup {v : List AV} : (AV.tup v).idOf = [] := rfl
theorem idOf_int {k : IntKind} {n : Int} : (AV.int k n).idOf = [] := rfl
theorem idOf_str {s : ByteArray} : (AV.str s).idOf = [] := rfl
theorem idOf_nilmap : AV.nilmap.idOf = [] := rfl
end
attribute [go_sem] sd_nil sdK_some sdK_okv sdK_oki sd_g sdGK_tt sdGK_ff sdGK_tf sdGK_ft sdGK_tup sd_call sd_mv sd_pick sd_alloc sd_box sd_build sd_bslice sd_load sd_store sd_faddr sd_fld sd_iaS sd_iaA sd_ixA sd_bin sd_eq sd_un sd_conv sd_ext sd_len sliceB_some sliceR_nils sliceR_emp sliceR_lit sliceR_slice appB_some app2_nils app2_emp app2_slice app1_some opE_app sd_app mkslR_i opE_mksl sd_mksl idOf_ptr idOf_slice idOf_mapr idOf_vptr idOf_lit idOf_nils idOf_emp idOf_undef idOf_tup idOf_int idOf_str idOf_nilmap
end Go.AM
