import Derived.Test.YtoeeiaconpagaaaAm6
import Derived.Test.YtoeeiaconpagaaaAm5
import Derived.IntWalk
set_option linter.unusedVariables false
set_option linter.unusedSimpArgs false
namespace Go.AM

/-! The program's data, and how they are told. -/

theorem code_loop {P : Program} {n0 nt : Nat} {b : RCode} {Q : QE} {te : AEnv} {h : Heap} (I : Nat → AEnv → Heap → Prop) (n : Nat) {te' : AEnv} {h' : Heap} (hw : WkE n0 nt te h te' h') (hI : I n te' h')
    (hr : ∀ n te h, I n te h → codeE P n0 nt b (thenE (roundE n0 nt I n) Q) te h) : codeE P n0 nt (.loop b) Q te h := ⟨I, ⟨n, te', h', hw, hI⟩, hr⟩
theorem round_of {n0 nt : Nat} {te : AEnv} {h : Heap} {I : Nat → AEnv → Heap → Prop} {n : Nat} (m : Nat) {te' : AEnv} {h' : Heap} (hm : m < n) (hw : WkE n0 nt te h te' h') (hI : I m te' h') : roundE n0 nt I n te h := ⟨m, te', h', hm, hw, hI⟩
theorem getD_map {α : Type} {f : α → AV} {l : List α} {i : Nat} {d : AV} (hi : i < l.length) : (l.map f).getD i d = f l[i] := by simp [List.getD, hi]
theorem toNat_nat {i : Nat} : (i : Int).toNat = i := by simp

/-- Slots forgotten; the blocks stay. -/
theorem WkE.slots {n0 nt : Nat} {te te' : AEnv} {h : Heap} (hn : n0 ≤ h.length) (hid : ∀ k ∈ h, k ≠ none → True) (he : ∀ t, lookE te' t = .undef ∨ (t < nt ∧ lookE te' t = lookE te t)) : WkE n0 nt te h te' h := by
  intro env r
  refine ⟨(List.range nt).map (lookE te'), ⟨by simp, fun t => ?_⟩, ?_⟩
  · simp only [List.getD, List.getElem?_map]
    rcases he t with h0 | ⟨h1, h2⟩
    · rw [h0]
      rcases Nat.lt_or_ge t nt with hlt | hge
      · rw [List.getElem?_range hlt]; simp [h0]
      · rw [List.getElem?_eq_none (by simpa using hge)]; rfl
    · rw [List.getElem?_range h1]; rfl
  · intro G L I w tmps hs hf hl hev
    refine ⟨G, I, Snap.le_refl G, fun _ _ => rfl, hl, hf, hs, ?_⟩
    unfold EnvR at hev ⊢
    have hl := VRs_length hev
    refine VRs_of_get (by rw [hl, r.len]; simp) fun t a ht => ?_
    rw [List.getElem?_map] at ht
    obtain ⟨htn, hte⟩ : t < nt ∧ a = lookE te' t := by
      rcases Nat.lt_or_ge t nt with hlt | hge
      · rw [List.getElem?_range hlt] at ht; simp at ht; exact ⟨hlt, ht.symm⟩
      · rw [List.getElem?_eq_none (by simpa using hge)] at ht; cases ht
    have hlt : t < env.length := by rw [r.len]; exact htn
    obtain ⟨c, c1, c2⟩ := VRs_get hev (List.getElem?_eq_getElem hlt)
    refine ⟨c, c1, ?_⟩
    rw [hte]
    rcases he t with h0 | ⟨_, h2⟩
    · rw [h0]; simp [VR]
    · have e : lookE te t = env[t] := by rw [r.get t]; simp [List.getD, List.getElem?_eq_getElem hlt]
      rw [h2, e]; exact c2

/-- Are all slots of te' as in te? -/
def subE (nt : Nat) (te : AEnv) : AEnv → Prop
  | [] => True
  | (d, v) :: r => d < nt ∧ lookE te d = v ∧ subE nt te r
theorem subE_spec {nt : Nat} {te : AEnv} : ∀ {te' : AEnv}, subE nt te te' → ∀ t, lookE te' t = .undef ∨ (t < nt ∧ lookE te' t = lookE te t)
  | [], _, t => .inl rfl
  | (d, v) :: r, hw, t => by
    obtain ⟨h1, h2, h3⟩ := hw
    simp only [lookE]
    cases hb : Nat.beq d t with
    | true =>
      have e : d = t := Nat.eq_of_beq_eq_true hb
      subst e
      right
      exact ⟨h1, by simp [h2]⟩
    | false => simpa using subE_spec h3 t
theorem wk_slots {n0 nt : Nat} {te te' : AEnv} {h : Heap} (hn : n0 ≤ h.length) (he : subE nt te te') : WkE n0 nt te h te' h := WkE.slots hn (fun _ _ _ => trivial) (subE_spec he)

def eU (x : UInt16) : AV := .int .u16 x.toNat
structure Port where
  sw : UInt16
  pt : UInt16
deriving DecidableEq, Inhabited
def cPort (p : Port) : List AV := [eU p.sw, eU p.pt]
def ePort (p : Port) : AV := .agg (cPort p)
def cLink (l : Port × Port) : List AV := [eU l.1.sw, eU l.1.pt, eU l.2.sw, eU l.2.pt]
def eLink (l : Port × Port) : AV := .agg (cLink l)
structure Topo where
  sws : List UInt16
  links : List (Port × Port)
  hosts : List Port
deriving Inhabited
def cTopo (t : Topo) : List AV := [.lit 1 (t.sws.map eU), .lit 4 (t.links.map eLink), .lit 2 (t.hosts.map ePort)]
def eTopo (t : Topo) : AV := .agg (cTopo t)
structure Topo.fits (t : Topo) : Prop where
  s : t.sws.length ≤ maxLen
  l : t.links.length ≤ maxLen
  h : t.hosts.length ≤ maxLen
abbrev Pk := Vector UInt16 8
def cPk (p : Pk) : List AV := p.toList.map eU
def ePk (p : Pk) : AV := .agg (cPk p)

theorem cPk_len (p : Pk) : (cPk p).length = 8 := by simp [cPk]
theorem cPk_get (p : Pk) (i : Nat) (hi : i < 8) : (cPk p)[i]? = some (eU p[i]) := by simp [cPk, hi]
theorem cPk_one (p : Pk) : (cPk p).all AV.one = true := by simp [cPk, eU, AV.one]
theorem cells_eU (x : UInt16) : (eU x).cells = [eU x] := rfl
theorem val_eU (x : UInt16) : (eU x).val = true := rfl
theorem one_eU (x : UInt16) : (eU x).one = true := rfl
theorem cells_ePk (x : Pk) : (ePk x).cells = cPk x := rfl
theorem val_ePk (x : Pk) : (ePk x).val = true := cPk_one x
theorem part_ePk (x : Pk) : part (some 8) (cPk x) 0 = some (ePk x) := part_all (cPk_len x)
theorem cells_ePort (x : Port) : (ePort x).cells = cPort x := rfl
theorem val_ePort (x : Port) : (ePort x).val = true := rfl
theorem part_cPort (x : Port) : part (some 2) (cPort x) 0 = some (ePort x) := part_all rfl
theorem cPort_len (x : Port) : (cPort x).length = 2 := rfl
theorem cLink_len (x : Port × Port) : (cLink x).length = 4 := rfl
theorem cTopo_len (x : Topo) : (cTopo x).length = 3 := rfl
theorem cells_eLink (x : Port × Port) : (eLink x).cells = cLink x := rfl
theorem val_eLink (x : Port × Port) : (eLink x).val = true := rfl
theorem part_cLink (x : Port × Port) : part (some 4) (cLink x) 0 = some (eLink x) := part_all rfl
theorem part_cLink0 (x : Port × Port) : part (some 2) (cLink x) 0 = some (ePort x.1) := rfl
theorem part_cLink2 (x : Port × Port) : part (some 2) (cLink x) 2 = some (ePort x.2) := rfl
theorem cells_eTopo (x : Topo) : (eTopo x).cells = cTopo x := rfl
theorem val_eTopo (x : Topo) : (eTopo x).val = true := rfl
theorem part_cTopo (x : Topo) : part (some 3) (cTopo x) 0 = some (eTopo x) := part_all rfl
theorem part_cTopo0 (x : Topo) : part none (cTopo x) 0 = some (.lit 1 (x.sws.map eU)) := rfl
theorem part_cTopo1 (x : Topo) : part none (cTopo x) 1 = some (.lit 4 (x.links.map eLink)) := rfl
theorem part_cTopo2 (x : Topo) : part none (cTopo x) 2 = some (.lit 2 (x.hosts.map ePort)) := rfl
theorem part_cPort0 (x : Port) : part none (cPort x) 0 = some (eU x.sw) := rfl
theorem part_cPort1 (x : Port) : part none (cPort x) 1 = some (eU x.pt) := rfl
theorem part_cPk (p : Pk) (i : Nat) (hi : i < 8) : part none (cPk p) i = some (eU p[i]) := cPk_get p i hi
theorem u16_inj {a b : UInt16} : ((a.toNat : Int) == (b.toNat : Int)) = (a == b) := by
  rw [Bool.eq_iff_iff]; simp [← UInt16.toNat_inj]; omega
theorem eqv_eU (a b : UInt16) : AV.eqv .i (eU a) (eU b) = some (a == b) := by
  unfold eU; rw [eqv_i, u16_inj]
theorem eqInts_eU (a b : UInt16) (xs ys : List AV) : eqInts (eU a :: xs) (eU b :: ys) = (eqInts xs ys).map fun r => (a == b) && r := by
  unfold eU; simp only [eqInts, if_true, u16_inj]
theorem eqv_ePort (a b : Port) : AV.eqv (.g 2) (ePort a) (ePort b) = some (a == b) := by
  show (if 2 = 2 then eqInts (cPort a) (cPort b) else none) = _
  simp only [if_true, cPort, eqInts_eU, eqInts, Option.map_some, Bool.and_true]
  congr 1
  cases a; cases b
  rw [Bool.eq_iff_iff]; simp
theorem eqInts_map : ∀ (xs ys : List UInt16), xs.length = ys.length → eqInts (xs.map eU) (ys.map eU) = some (xs == ys)
  | [], [], _ => rfl
  | [], _ :: _, h => by cases h
  | _ :: _, [], h => by cases h
  | x :: xs, y :: ys, h => by
    rw [List.map_cons, List.map_cons, eqInts_eU, eqInts_map xs ys (by simpa using h)]
    simp
theorem eqv_ePk (a b : Pk) : AV.eqv (.g 8) (ePk a) (ePk b) = some (a == b) := by
  show (if (cPk a).length = 8 then eqInts (cPk a) (cPk b) else none) = _
  rw [if_pos (cPk_len a)]
  unfold cPk
  rw [eqInts_map _ _ (by simp)]
  congr 1
  rw [Bool.eq_iff_iff]
  simp [Vector.toList_inj]
theorem wrap_succ {i n : Nat} (hi : i < n) (hn : n ≤ maxLen) : IntKind.i64.wrap ((i : Int) + 1) = ((i + 1 : Nat) : Int) := by
  unfold maxLen at hn
  rw [IntWalk.i64_in _ (by omega)]; omega

theorem idx {i n : Nat} (h : i < n) : ((0 : Int) ≤ (i : Int) ∧ (i : Int) < (n : Int)) = True := by simp; omega
theorem lt_t {i n : Nat} (h : i < n) : decide ((i : Int) < (n : Int)) = true := by simp; omega
theorem lt_f {i n : Nat} (h : ¬ i < n) : decide ((i : Int) < (n : Int)) = false := by simp; omega

theorem overwrite_cPk (p : Pk) (i : Nat) (x : UInt16) (hi : i < 8) : overwrite (cPk p) i [eU x] = cPk (p.set i x) := by
  unfold overwrite cPk
  rw [Vector.toList_set, List.map_set, List.set_eq_take_append_cons_drop, if_pos (by simpa using hi)]
  simp
/-- A call of a pure function. -/
theorem call_pure {P : Program} {n0 nt : Nat} {Q : QE} {d : Option Nat} {f : RO} {args : List RO} {next : AEnv → Heap → Prop} {te : AEnv} {h : Heap} {k : Nat} {caps as : List AV} {v : AV} (hc : CallsA P k as [] (fun o _ => o = .ret v))
    (hd : inF nt d = true) (hf : evF te f = .fn k caps) (ha : args.map (evF te) ++ caps = as) (hp : (pureL as && v.pure) = true) (hn : next (setF te d v) h) : callE P n0 nt Q d f args next te h := by
  simp only [Bool.and_eq_true] at hp
  refine ⟨hd, te, h, WkE.refl, k, caps, hf, ?_⟩
  rw [ha]
  refine (hc.lift hp.1 hp.2 h).mono ?_
  rintro out h' ⟨rfl, rfl⟩
  exact hn
/-- The same, in a drawn region. -/
theorem rcall_pure {P : Program} {nt : Nat} {K : AEnv → Heap → Prop} {d : Option Nat} {f : RO} {args : List RO} {os : List ROper} {te : AEnv} {h : Heap} {k : Nat} {caps as : List AV} {v : AV} (hc : CallsA P k as [] (fun o _ => o = .ret v))
    (hd : inF nt d = true) (hf : evF te f = .fn k caps) (ha : args.map (evF te) ++ caps = as) (hp : (pureL as && v.pure) = true) (hn : rdE P nt K os (setF te d v) h) : rcallK P nt K d f args os te h := by
  simp only [Bool.and_eq_true] at hp
  subst ha
  exact ⟨hd, k, caps, v, hf, hp.1, hp.2, hc, hn⟩
theorem sdcall_pure {P : Program} {nt : Nat} {bef : List Nat} {K : AEnv → Heap → Prop} {d : Option Nat} {f : RO} {args : List RO} {os : List ROper} {log : List LogE} {te : AEnv} {h : Heap} {k : Nat} {caps as : List AV} {v : AV} (hc : CallsA P k as [] (fun o _ => o = .ret v))
    (hd : inF nt d = true) (hf : evF te f = .fn k caps) (ha : args.map (evF te) ++ caps = as) (hp : (pureL as && v.pure) = true) (hn : sdE P nt bef K os (log ++ [⟨some [], h.length, h.length, []⟩]) (setF te d v) h) : sdCK P nt bef K d f args os log te h := by
  simp only [Bool.and_eq_true] at hp
  subst ha
  exact ⟨hd, k, caps, v, hf, hp.1, hp.2, hc, hn⟩
theorem pureL_map {α : Type} {f : α → AV} (hf : ∀ x, (f x).pure = true) (l : List α) : pureL (l.map f) = true := by
  rw [pureL_all, List.all_eq_true]
  intro x hx
  obtain ⟨a, _, rfl⟩ := List.mem_map.1 hx
  exact hf a
theorem pure_eU (x : UInt16) : (eU x).pure = true := of_eq_true (eq_true rfl)
theorem pure_ePort (x : Port) : (ePort x).pure = true := of_eq_true (eq_true rfl)
theorem pure_eLink (x : Port × Port) : (eLink x).pure = true := of_eq_true (eq_true rfl)
theorem pureL_eU (l : List UInt16) : pureL (l.map eU) = true := pureL_map pure_eU l
theorem pureL_ePort (l : List Port) : pureL (l.map ePort) = true := pureL_map pure_ePort l
theorem pureL_eLink (l : List (Port × Port)) : pureL (l.map eLink) = true := pureL_map pure_eLink l
theorem pure_lit {sz : Nat} {es : List AV} : (AV.lit sz es).pure = pureL es := by simp [AV.pure]
theorem pure_agg {es : List AV} : (AV.agg es).pure = pureL es := by simp [AV.pure]
theorem pure_tup {es : List AV} : (AV.tup es).pure = pureL es := by simp [AV.pure]
theorem pure_int {k : IntKind} {n : Int} : (AV.int k n).pure = true := of_eq_true (eq_true rfl)
theorem pure_bool {b : Bool} : (AV.bool b).pure = true := of_eq_true (eq_true rfl)
theorem pureL_nil : pureL [] = true := of_eq_true (eq_true rfl)
theorem pureL_cons {a : AV} {l : List AV} : pureL (a :: l) = (a.pure && pureL l) := by simp [pureL]
theorem pure_ePk (x : Pk) : (ePk x).pure = true := by unfold ePk; rw [pure_agg]; exact pureL_eU _
theorem pure_eTopo (x : Topo) : (eTopo x).pure = true := by
  unfold eTopo cTopo; simp only [pure_agg, pureL_cons, pure_lit, pureL_eU, pureL_eLink, pureL_ePort, pureL_nil, Bool.and_self]
theorem pureL_cTopo (x : Topo) : pureL (cTopo x) = true := by have := pure_eTopo x; unfold eTopo at this; rwa [pure_agg] at this
theorem pureL_cPort (x : Port) : pureL (cPort x) = true := of_eq_true (eq_true rfl)
theorem pureL_cLink (x : Port × Port) : pureL (cLink x) = true := of_eq_true (eq_true rfl)
theorem pureL_cPk (x : Pk) : pureL (cPk x) = true := pureL_eU _
theorem one_cTopo (x : Topo) : (cTopo x).all AV.one = true := rfl
theorem one_cPort (x : Port) : (cPort x).all AV.one = true := rfl
theorem one_cLink (x : Port × Port) : (cLink x).all AV.one = true := rfl
attribute [go_sem] pureL_cTopo pureL_cPort pureL_cLink pureL_cPk one_cTopo one_cPort one_cLink pure_eU pure_ePort pure_eLink pureL_eU pureL_ePort pureL_eLink pure_lit pure_agg pure_tup pure_int pure_bool pureL_nil pureL_cons pure_ePk pure_eTopo
attribute [go_sem] cLink_len cTopo_len cPk_len cPk_one cells_eU val_eU one_eU cells_ePk val_ePk part_ePk cells_ePort val_ePort part_cPort cPort_len cells_eLink val_eLink part_cLink part_cLink0 part_cLink2 cells_eTopo val_eTopo part_cTopo part_cTopo0 part_cTopo1 part_cTopo2 part_cPort0 part_cPort1 eqv_eU eqv_ePort eqv_ePk List.length_map toNat_nat subE


/-! Rows of elements. -/
section
variable {α : Type} {f : α → List AV} {sz : Nat}
theorem flat_len (hf : ∀ x, (f x).length = sz) (l : List α) : (l.flatMap f).length = l.length * sz := by
  induction l with
  | nil => simp
  | cons a l ih => rw [List.flatMap_cons, List.length_append, hf, ih, List.length_cons, Nat.succ_mul]; omega
theorem flat_take (hf : ∀ x, (f x).length = sz) (l : List α) (n : Nat) : (l.flatMap f).take (n * sz) = (l.take n).flatMap f := by
  induction l generalizing n with
  | nil => simp
  | cons a l ih =>
    cases n with
    | zero => simp
    | succ n =>
      rw [List.flatMap_cons, List.take_succ_cons, List.flatMap_cons, ← ih n, Nat.succ_mul, Nat.add_comm, ← hf a, List.take_length_add_append]
theorem flat_drop (hf : ∀ x, (f x).length = sz) (l : List α) (n : Nat) : (l.flatMap f).drop (n * sz) = (l.drop n).flatMap f := by
  induction l generalizing n with
  | nil => simp
  | cons a l ih =>
    cases n with
    | zero => simp
    | succ n =>
      rw [List.flatMap_cons, List.drop_succ_cons, ← ih n, Nat.succ_mul, Nat.add_comm, ← hf a, List.drop_length_add_append]
theorem flat_all (hf : ∀ x, (f x).length = sz) (l : List α) : (l.flatMap f).take (l.length * sz) = l.flatMap f := by rw [flat_take hf, List.take_length]
theorem flat_part (hf : ∀ x, (f x).length = sz) {l : List α} {i : Nat} (hi : i < l.length) : part (some sz) (l.flatMap f) (i * sz) = some (.agg (f l[i])) := by
  have hle : i * sz + sz ≤ (l.flatMap f).length := by
    rw [flat_len hf, ← Nat.succ_mul]; exact Nat.mul_le_mul_right _ hi
  simp only [part]
  rw [if_pos hle, flat_drop hf, List.drop_eq_getElem_cons hi, List.flatMap_cons]
  congr 2
  rw [← hf l[i], List.take_left']
  rfl
theorem flat_one (ho : ∀ x, (f x).all AV.one = true) (l : List α) : (l.flatMap f).all AV.one = true := by
  induction l with
  | nil => rfl
  | cons a l ih => rw [List.flatMap_cons, List.all_append, ho, ih]; rfl
theorem flat_pure (hp : ∀ x, pureL (f x) = true) (l : List α) : pureL (l.flatMap f) = true := by
  rw [pureL_all]
  induction l with
  | nil => rfl
  | cons a l ih => rw [List.flatMap_cons, List.all_append, ih, ← pureL_all, hp]; rfl
theorem wel_agg {h : Heap} {keep fr : List Nat} {e : α → AV} (he : ∀ x, e x = .agg (f x)) (hf : ∀ x, (f x).length = sz) (ho : ∀ x, (f x).all AV.one = true) (hp : ∀ x, pureL (f x) = true) : ∀ l : List α, Wel h keep fr sz (l.map e) (l.flatMap f)
  | [] => by simp [Wel]
  | a :: l => by
    simp only [List.map_cons, List.flatMap_cons, Wel]
    refine ⟨f a, _, rfl, hf a, by rw [he]; exact ho a, .inl ?_, wel_agg he hf ho hp l⟩
    rw [he]; exact Wv_self _ (by rw [pure_agg]; exact hp a)
theorem flat_cells {e : α → AV} (he : ∀ x, e x = .agg (f x)) (l : List α) : (l.map e).flatMap AV.cells = l.flatMap f := by
  rw [List.flatMap_map]
  congr 1
  funext x
  rw [he]; rfl
end
/-- The cells of ports. -/
def cPorts (l : List Port) : List AV := l.flatMap cPort
theorem cPorts_len (l : List Port) : (cPorts l).length = l.length * 2 := flat_len (f := cPort) (fun _ => rfl) l
theorem cPorts_all (l : List Port) : (cPorts l).take (l.length * 2) = cPorts l := flat_all (f := cPort) (fun _ => rfl) l
theorem cPorts_part {l : List Port} {i : Nat} (hi : i < l.length) : part (some 2) (cPorts l) (i * 2) = some (ePort l[i]) := flat_part (f := cPort) (fun _ => rfl) hi
theorem cPorts_one (l : List Port) : (cPorts l).all AV.one = true := flat_one (f := cPort) (fun _ => rfl) l
theorem cPorts_pure (l : List Port) : pureL (cPorts l) = true := flat_pure (f := cPort) (fun _ => pureL_cPort _) l
theorem cPorts_wel {h : Heap} {keep fr : List Nat} (l : List Port) : Wel h keep fr 2 (l.map ePort) (cPorts l) = True := eq_true (wel_agg (f := cPort) (e := ePort) (fun _ => rfl) (fun _ => rfl) (fun _ => rfl) (fun _ => pureL_cPort _) l)
theorem cPorts_cells (l : List Port) : (l.map ePort).flatMap AV.cells = cPorts l := flat_cells (f := cPort) (fun _ => rfl) l
theorem cPorts_app (l m : List Port) : cPorts l ++ cPorts m = cPorts (l ++ m) := by simp [cPorts]
theorem cPorts_two (l : List Port) (a b : Port) : cPorts l ++ (cPort a ++ cPort b) = cPorts (l ++ [a, b]) := by simp [cPorts]
theorem overwrite_two (a : Port) (r vs : List AV) : overwrite (cPort a ++ r) 2 vs = cPort a ++ overwrite r 0 vs := by
  simp [overwrite, cPort]
  have : 2 + vs.length = vs.length + 1 + 1 := by omega
  rw [this]; rfl
theorem take_two (a b : Port) : (cPort a ++ cPort b).take 4 = cPort a ++ cPort b := rfl
theorem cPorts_all2 (l m : List Port) : (cPorts (l ++ m)).take ((l.length + m.length) * 2) = cPorts (l ++ m) := by rw [← List.length_append, cPorts_all]
attribute [go_sem] cPorts_all2 cPorts_len cPorts_all cPorts_one cPorts_pure cPorts_wel cPorts_cells cPorts_app cPorts_two overwrite_two take_two List.length_append List.all_append List.mem_cons List.not_mem_nil or_false
end Go.AM
