/- Walks over the abstract machine are sound: code, calls, drawn regions, deferred calls, closed runs. No condition. -/
import Derived.Test.YtoeeiaconpagaaaAm2
import Derived.LoopN
import Derived.Tactics
import Derived.Orders
import Derived.Recover
set_option linter.unusedVariables false
set_option linter.unusedSimpArgs false
set_option linter.unnecessarySimpa false
namespace Go.AM

inductive Out where
  | ret (v : AV) | pan (v : AV)

inductive AExit where
  | normal | exit (id : Nat) | ret | panic (v : AV)

def OutR (G : Snap) (I : Inj) : Out → Ending → Prop
  | .ret v, .returned c => VR G I v c
  | .pan v, .panicked chain => ∃ c, chain = [{ v := c, recovered := false }] ∧ VR G I v c
  | _, _ => False

def Fresh (I : Inj) (h : Heap) : Prop := ∀ i, h.length ≤ i → I i = none

/-- **A function's contract**, over abstract arguments and blocks. -/
def CallsA (P : Program) (f : Nat) (args : List AV) (h : Heap) (R : Out → Heap → Prop) : Prop :=
  (∀ as w, (callFunc f as).run P w = .ok (.enter f as) w) ∧
  ∀ (G : Snap) (L : Lk) (I : Inj) (w : World) (cargs : List Value), St G L I h w → Fresh I h → VRs G I args cargs →
    Calls P f cargs.toArray w fun e w' => ∃ G' I' out h', R out h' ∧ G.le G' ∧ (∀ i, i < h.length → I' i = I i) ∧ h.length ≤ h'.length ∧ Fresh I' h' ∧ St G' L I' h' w' ∧ OutR G' I' out e

theorem CallsA.mono {P : Program} {f : Nat} {args : List AV} {h : Heap} {R R' : Out → Heap → Prop} (hc : CallsA P f args h R) (hr : ∀ o h', R o h' → R' o h') : CallsA P f args h R' :=
  ⟨hc.1, fun G L I w cargs h1 h2 h3 => (hc.2 G L I w cargs h1 h2 h3).mono fun e w' ⟨G', I', out, h', r, rest⟩ => ⟨G', I', out, h', hr _ _ r, rest⟩⟩

def setD (env : List AV) (d : Option Nat) (v : AV) : List AV :=
  match d with
  | some d => env.set d v
  | none => env

abbrev Post := AExit → List AV → Heap → Prop

/-- **A ghost step**: slots forgotten, blocks given up, named anew or made immutable; the first n0 blocks keep their names. -/
def Wk (n0 : Nat) (env : List AV) (h : Heap) (env' : List AV) (h' : Heap) : Prop :=
  ∀ (G : Snap) (L : Lk) (I : Inj) (w : World) (tmps : Array Value), St G L I h w → Fresh I h → n0 ≤ h.length → EnvR G I env tmps →
    ∃ G' I', G.le G' ∧ (∀ i, i < n0 → I' i = I i) ∧ n0 ≤ h'.length ∧ Fresh I' h' ∧ St G' L I' h' w ∧ EnvR G' I' env' tmps

theorem Wk.refl {n0 : Nat} {env : List AV} {h : Heap} : Wk n0 env h env h := fun G L I w tmps hs hf hl he => ⟨G, I, Snap.le_refl G, fun _ _ => rfl, hl, hf, hs, he⟩

theorem Wk.trans {n0 : Nat} {a b c : List AV} {h k l : Heap} (x : Wk n0 a h b k) (y : Wk n0 b k c l) : Wk n0 a h c l := by
  intro G L I w tmps hs hf hl he
  obtain ⟨G1, I1, g1, g2, g3, g4, g5, g6⟩ := x G L I w tmps hs hf hl he
  obtain ⟨G2, I2, k1, k2, k3, k4, k5, k6⟩ := y G1 L I1 w tmps g5 g4 g3 g6
  exact ⟨G2, I2, Snap.le_trans g1 k1, fun i hi => by rw [k2 i hi, g2 i hi], k3, k4, k5, k6⟩

def AV.isEmp : AV → Bool
  | .emp => true
  | .lit _ [] => true
  | .slice _ _ 0 _ => true
  | _ => false

def callA (P : Program) (n0 : Nat) (d : Option Nat) (f : RO) (args : List RO) (Q : Post) (cont : List AV → Heap → Prop) (env : List AV) (h : Heap) : Prop :=
  ∃ env' h', Wk n0 env h env' h' ∧ match f.ev env' with
    | .fn k caps => CallsA P k (args.map (RO.ev env') ++ caps) h' fun out h'' => match out with
      | .ret v => cont (setD env' d v) h''
      | .pan v => Q (.panic v) env' h''
    | _ => False

/-- One operation that is carried out. -/
def wpOp (P : Program) (n0 : Nat) (o : ROper) (Q : Post) (cont : List AV → Heap → Prop) (env : List AV) (h : Heap) : Prop :=
  match o.op with
  | .call f args => callA P n0 o.dst f args Q cont env h
  | .panic x => match x.ev env with
    | .iface t v => Q (.panic (.iface t v)) env h
    | _ => False
  | r => match r.run env h h.length with
    | some (c, v, u) => c = true ∧ cont (setD env o.dst v) (h.upd u)
    | none => match r with
      | .isnil k _ x => k = 1 ∧ (x.ev env).isEmp = true ∧ ∀ b, cont (setD env o.dst (.bool b)) h
      | _ => False

def wpOps (P : Program) (n0 : Nat) (Q : Post) : List ROper → List AV → Heap → Prop
  | [], env, h => Q .normal env h
  | o :: os, env, h =>
    match o.guard with
    | none => wpOp P n0 o Q (wpOps P n0 Q os) env h
    | some (d, want) => match env.getD d .undef with
      | .bool b => ((b == want) = true → wpOp P n0 o Q (wpOps P n0 Q os) env h) ∧ ((b == want) = false → wpOps P n0 Q os (setD env o.dst (.tup [])) h)
      | .tup _ => wpOps P n0 Q os (setD env o.dst (.tup [])) h
      | _ => False

/-- What is related at the end of a piece of code that began at G0, I0, with n0 blocks. -/
def Lift (G0 : Snap) (L : Lk) (I0 : Inj) (n0 : Nat) (dfr : List Deferred) (Q : Post) : Exit → Act → World → Prop := fun e a w =>
  ∃ e' env h G I, Q e' env h ∧ (match e', e with
      | .normal, .normal => True
      | .exit i, .exit j => i = j
      | .ret, .ret => True
      | .panic v, .panic chain => ∃ c, chain = [{ v := c, recovered := false }] ∧ VR G I v c
      | _, _ => False) ∧
    G0.le G ∧ (∀ i, i < n0 → I i = I0 i) ∧ St G L I h w ∧ Fresh I h ∧ n0 ≤ h.length ∧ EnvR G I env a.tmps ∧ a.defers = dfr

section
variable {P : Program} {w : World} {G : Snap} {L : Lk} {I : Inj} {h : Heap}

theorem Heap.length_upd_le : ∀ (u : Upd) (h : Heap), h.length ≤ (h.upd u).length
  | [], h => Nat.le_refl _
  | (i, k) :: u, h => by
    have := Heap.length_upd_le u (h.set i k)
    rw [Heap.length_set] at this
    simp only [Heap.upd]; omega

theorem Heap.length_upd_mem : ∀ (u : Upd) (h : Heap) (n : Nat), n ∈ u.map (·.1) → n < (h.upd u).length
  | [], h, n, hn => by simp at hn
  | (i, k) :: u, h, n, hn => by
    simp only [Heap.upd]
    simp only [List.map_cons, List.mem_cons] at hn
    rcases hn with rfl | hn
    · have := Heap.length_upd_le u (h.set n k)
      rw [Heap.length_set] at this; omega
    · exact Heap.length_upd_mem u _ n hn

theorem EnvR.put {env : List AV} {a : Act} (he : EnvR G I env a.tmps) {d : Option Nat} {v : AV} {c : Value} (hv : VR G I v c) : EnvR G I (setD env d v) (a.put d c).tmps := by
  cases d with
  | none => exact he
  | some d =>
    unfold EnvR setD Act.put
    simp only [Array.toList_setIfInBounds]
    exact VRs_set he hv

theorem put_defers (a : Act) (d : Option Nat) (c : Value) : (a.put d c).defers = a.defers := by cases d <;> rfl

theorem EnvR.mono {G' : Snap} {I' : Inj} {env : List AV} {tmps : Array Value} (he : EnvR G I env tmps) (hG : G.le G') (hI : I.le I') : EnvR G' I' env tmps := VRs_mono hG hI _ _ he

theorem le_of_agree {I I' : Inj} {h : Heap} (hf : Fresh I h) (ha : ∀ i, i < h.length → I' i = I i) : I.le I' := by
  intro i x hx
  rcases Nat.lt_or_ge i h.length with hl | hl
  · rw [ha i hl]; exact hx
  · rw [hf i hl] at hx; cases hx

/-- A call. -/
theorem wpOp_call (hs : St G L I h w) (hf : Fresh I h) {env : List AV} {a : Act} (he : EnvR G I env a.tmps) {o : Oper} {f : Operand} {args : Array Operand} {ts : Array TypeId} (ho : o.op = .call ⟨.value f, args, ts⟩)
    {rf : RO} {ras : List RO} (h1 : cRO f = some rf) (h2 : cROs args.toList = some ras) {k : Nat} {caps : List AV} (hk : rf.ev env = .fn k caps)
    {R : Out → Heap → Prop} (hc : CallsA P k (ras.map (RO.ev env) ++ caps) h R) {next : Act → World → Prop} {Q : Exit → Act → World → Prop}
    (hret : ∀ v c h' G' I' w', R (.ret v) h' → G.le G' → (∀ i, i < h.length → I' i = I i) → h.length ≤ h'.length → Fresh I' h' → St G' L I' h' w' → VR G' I' v c → next (a.put o.dst c) w')
    (hpan : ∀ v c h' G' I' w', R (.pan v) h' → G.le G' → (∀ i, i < h.length → I' i = I i) → h.length ≤ h'.length → Fresh I' h' → St G' L I' h' w' → VR G' I' v c → Q (.panic [{ v := c, recovered := false }]) a w') :
    o.wp P a w next Q := by
  have hfn := ev_sound he h1
  rw [hk] at hfn
  simp only [VR] at hfn
  obtain ⟨vs, hfv, hvs⟩ := hfn
  have hargs := cROs_sound he h2
  have hrun : (execOp a.eval o).run P w = .ok (.enter k (args.toList.map a.eval ++ vs).toArray) w := by
    have hca := hc.1 (args.toList.map a.eval ++ vs).toArray w
    unfold execOp
    simp only [ho, resolve, Sem.run_bind, hfv, Deferred.ofValue, Sem.run_pure, Result.andThen_ok, invoke]
    rw [← hca]
    congr 2
    apply Array.ext'
    simp
  unfold Oper.wp
  rw [hrun, Oper.upon_enter]
  refine (hc.2 G L I w _ hs hf (VRs_append hargs hvs)).mono ?_
  rintro e w' ⟨G', I', out, h', r, g1, g2, g3, g4, g5, g6⟩
  cases e with
  | returned c =>
    cases out with
    | ret v => exact hret v c h' G' I' w' r g1 g2 g3 g4 g5 g6
    | pan v => exact g6.elim
  | panicked chain =>
    cases out with
    | ret v => exact g6.elim
    | pan v =>
      obtain ⟨c, rfl, hv⟩ := g6
      exact hpan v c h' G' I' w' r g1 g2 g3 g4 g5 hv
  | outgrown => cases out <;> exact g6.elim

theorem cOp_inv {o : Op} {r : ROp} (hc : cOp P o = some r) :
    (∀ f as, r = .call f as → ∃ fo args ts, o = .call ⟨.value fo, args, ts⟩ ∧ cRO fo = some f ∧ cROs args.toList = some as) ∧ (∀ x, r = .panic x → ∃ xo, o = .panic xo ∧ cRO xo = some x) := by
  cases o with
  | call c =>
    obtain ⟨callee, args, ts⟩ := c
    cases callee with
    | value fo =>
      simp only [cOp] at hc
      split at hc
      · rename_i f' as' h1 h2
        injection hc with hc
        subst hc
        exact ⟨fun f as e => (by injection e with e1 e2; subst e1; subst e2; exact ⟨fo, args, ts, rfl, h1, h2⟩), fun x e => (by cases e)⟩
      · cases hc
    | invoke rcv m => simp only [cOp, reduceCtorEq] at hc
    | builtin b =>
      cases b <;> simp only [cOp] at hc <;> (repeat' split at hc) <;> (try (simp only [reduceCtorEq] at hc; done)) <;> (injection hc with hc; subst hc; exact ⟨fun f as e => (by cases e), fun x e => (by cases e)⟩)
  | panic x =>
    simp only [cOp] at hc
    obtain ⟨rx, h1, rfl⟩ := Option.map_some_inv hc
    exact ⟨fun f as e => (by cases e), fun y e => (by injection e with e; subst e; exact ⟨x, rfl, h1⟩)⟩
  | binOp op t x y yt =>
    have key : (∃ op' rx ry, r = .bin op' rx ry) ∨ (∃ n k rx ry, r = .eq n k rx ry) ∨ (∃ k n rx, r = .isnil k n rx) := by
      cases op <;> simp only [cOp, cEq] at hc <;> (repeat' split at hc) <;> (try (simp only [reduceCtorEq] at hc; done)) <;> (injection hc with hc; subst hc) <;> simp
    rcases key with ⟨_, _, _, rfl⟩ | ⟨_, _, _, _, rfl⟩ | ⟨_, _, _, rfl⟩ <;> exact ⟨fun f as e => (by cases e), fun x e => (by cases e)⟩
  | makeFunc fn first caps =>
    cases fn <;> simp only [cOp] at hc <;> (try (simp only [reduceCtorEq] at hc; done))
    split at hc
    · obtain ⟨_, _, rfl⟩ := Option.map_some_inv hc
      exact ⟨fun f as e => (by cases e), fun x e => (by cases e)⟩
    · cases hc
  | makeMap t res => cases res <;> simp only [cOp] at hc <;> cases hc <;> exact ⟨fun f as e => (by cases e), fun x e => (by cases e)⟩
  | _ =>
    simp only [cOp] at hc
    (repeat' split at hc) <;> (try (simp only [reduceCtorEq] at hc; done)) <;>
      first
        | (obtain ⟨_, _, rfl⟩ := Option.map_some_inv hc; exact ⟨fun f as e => (by cases e), fun x e => (by cases e)⟩)
        | (injection hc with hc; subst hc; exact ⟨fun f as e => (by cases e), fun x e => (by cases e)⟩)

theorem cOp_call_inv {o : Op} {f : RO} {as : List RO} (hc : cOp P o = some (.call f as)) : ∃ fo args ts, o = .call ⟨.value fo, args, ts⟩ ∧ cRO fo = some f ∧ cROs args.toList = some as := (cOp_inv hc).1 f as rfl
theorem cOp_panic_inv {o : Op} {x : RO} (hc : cOp P o = some (.panic x)) : ∃ xo, o = .panic xo ∧ cRO xo = some x := (cOp_inv hc).2 x rfl

theorem cOper_inv {ops : Array Oper} {o : Oper} {r : ROper} (h : cOper P ops o = some r) : cOp P o.op = some r.op ∧ r.dst = o.dst ∧
    (match o.guard with | none => r.guard = none | some (j, want) => ∃ d, (ops[j]?).bind (·.dst) = some d ∧ r.guard = some (d, want)) := by
  unfold cOper at h
  split at h
  · cases h
  · rename_i rop hr
    split at h
    · rename_i hg
      injection h with h; subst h
      rw [hg]; exact ⟨hr, rfl, rfl⟩
    · rename_i j want hg
      split at h
      · rename_i d hd
        injection h with h; subst h
        rw [hg]; exact ⟨hr, rfl, d, hd, rfl⟩
      · cases h

theorem cOp_isnil_inv {o : Op} {k : Nat} {neg : Bool} {x : RO} (hc : cOp P o = some (.isnil k neg x)) :
    ∃ t xo yo yt, o = .binOp (if neg then .neq else .eql) t xo yo yt ∧ nilK P t = some k ∧ nilC yo = some k ∧ cRO xo = some x := by
  cases o with
  | binOp op t xo yo yt =>
    have main : ∀ ng, cEq P ng t xo yo = some (.isnil k neg x) → ng = neg ∧ nilK P t = some k ∧ nilC yo = some k ∧ cRO xo = some x := by
      intro ng hq
      simp only [cEq] at hq
      split at hq
      · rename_i kk hk
        split at hq <;> (try (simp only [reduceCtorEq] at hq; done))
        rename_i rx h1
        split at hq <;> (try (simp only [reduceCtorEq] at hq; done))
        rename_i hk2
        injection hq with hq; injection hq with e1 e2 e3
        subst e1; subst e2; subst e3
        exact ⟨rfl, hk2, hk, h1⟩
      · split at hq <;> (try (simp only [reduceCtorEq] at hq; done))
        injection hq with hq; cases hq
    cases op <;> simp only [cOp] at hc
    case eql => obtain ⟨rfl, q⟩ := main false hc; exact ⟨t, xo, yo, yt, rfl, q⟩
    case neq => obtain ⟨rfl, q⟩ := main true hc; exact ⟨t, xo, yo, yt, rfl, q⟩
    all_goals (split at hc <;> (try (simp only [reduceCtorEq] at hc; done)); injection hc with hc; cases hc)
  | call c =>
    obtain ⟨callee, args, ts⟩ := c
    cases callee with
    | value fo =>
      simp only [cOp] at hc
      split at hc
      · injection hc with hc; cases hc
      · cases hc
    | invoke rcv m => simp only [cOp, reduceCtorEq] at hc
    | builtin b =>
      cases b <;> simp only [cOp] at hc <;> (repeat' split at hc) <;> (try (simp only [reduceCtorEq] at hc; done)) <;> (injection hc with hc; cases hc)
  | makeFunc fn first caps =>
    cases fn <;> simp only [cOp] at hc <;> (try (simp only [reduceCtorEq] at hc; done))
    split at hc
    · obtain ⟨_, _, e⟩ := Option.map_some_inv hc; cases e
    · cases hc
  | makeMap t res => cases res <;> simp only [cOp] at hc <;> cases hc
  | _ =>
    simp only [cOp] at hc
    (repeat' split at hc) <;> (try (simp only [reduceCtorEq] at hc; done)) <;>
      first
        | (simp only [Option.some.injEq, reduceCtorEq] at hc; done)
        | (obtain ⟨_, _, e⟩ := Option.map_some_inv hc; simp only [reduceCtorEq] at e; done)

/-- One operation that is carried out: soundness. -/
theorem wpOp_sound (hs : St G L I h w) (hf : Fresh I h) {env : List AV} {a : Act} (he : EnvR G I env a.tmps) {o : Oper} {r : ROper} (hc : cOp P o.op = some r.op) (hd : r.dst = o.dst)
    {Q : Post} {cont : List AV → Heap → Prop} {n0 : Nat} (h0 : n0 ≤ h.length) (hw : wpOp P n0 r Q cont env h) {next : Act → World → Prop} {CQ : Exit → Act → World → Prop}
    (hn : ∀ env' h' a' w' G' I', cont env' h' → G.le G' → (∀ i, i < n0 → I' i = I i) → n0 ≤ h'.length → Fresh I' h' → St G' L I' h' w' → EnvR G' I' env' a'.tmps → a'.defers = a.defers → next a' w')
    (hp : ∀ env' v c h' w' G' I', Q (.panic v) env' h' → G.le G' → (∀ i, i < n0 → I' i = I i) → n0 ≤ h'.length → Fresh I' h' → St G' L I' h' w' → VR G' I' v c → EnvR G' I' env' a.tmps → CQ (.panic [{ v := c, recovered := false }]) a w') :
    o.wp P a w next CQ := by
  have plain : (∀ f as, r.op ≠ .call f as) → (∀ x, r.op ≠ .panic x) → o.wp P a w next CQ := by
    intro n1 n2
    have hw' : match r.op.run env h h.length with
        | some (c, v, u) => c = true ∧ cont (setD env r.dst v) (h.upd u)
        | none => match r.op with
          | .isnil k _ x => k = 1 ∧ (x.ev env).isEmp = true ∧ ∀ b, cont (setD env r.dst (.bool b)) h
          | _ => False := by
      unfold wpOp at hw
      split at hw
      · rename_i f as hop; exact absurd hop (n1 f as)
      · rename_i x hop; exact absurd hop (n2 x)
      · exact hw
    cases hr : r.op.run env h h.length with
    | none =>
      rw [hr] at hw'
      simp only at hw'
      split at hw' <;> (try (exact hw'.elim))
      rename_i k neg x hop
      obtain ⟨rfl, hemp, hcont⟩ := hw'
      obtain ⟨t, xo, yo, yt, hoo, hk1, hk2, hx⟩ := cOp_isnil_inv (hop ▸ hc)
      have hxv := ev_sound he hx
      have hsl : ∃ q l c, a.eval xo = .slice q l c := by
        cases hxa : x.ev env <;> rw [hxa] at hemp hxv <;> simp only [AV.isEmp, Bool.false_eq_true] at hemp
        · simp only [VR] at hxv; obtain ⟨q, e⟩ := hxv; exact ⟨q, 0, 0, e⟩
        · rename_i sz es
          cases es with
          | nil =>
            simp only [VR] at hxv
            rcases hxv with ⟨_, q, cap, e⟩ | ⟨b, o, obj, cap, vs, e, _⟩
            · exact ⟨q, 0, cap, e⟩
            · exact ⟨_, _, _, e⟩
          | cons y ys => simp at hemp
        · rename_i id off ln sz
          simp only [VR] at hxv
          rcases hxv with ⟨_, q, e⟩ | ⟨b, base, ext, cap, _, e, _⟩
          · exact ⟨q, 0, 0, e⟩
          · exact ⟨_, _, _, e⟩
      obtain ⟨b, hb⟩ := isnil_any (P := P) (x := xo) hk1 hk2 hsl (neg := neg) (ev := a.eval) (fun c => rfl) w
      have hrun : (execOp a.eval o).run P w = .ok (.value (.bool b)) w := by
        unfold execOp
        rw [hoo]
        show ((do eqGuard (if neg then .neq else .eql) t xo yo (a.eval xo) (a.eval yo); Go.binOp (if neg then .neq else .eql) t (a.eval xo) (a.eval yo) : Sem Value) >>= fun v => Pure.pure (Next.value v)).run P w = _
        rw [Sem.run_bind, hb]
        rfl
      unfold Oper.wp
      rw [hrun]
      have henv : EnvR G I (setD env r.dst (.bool b)) (a.put o.dst (.bool b)).tmps := by
        rw [hd]; exact he.put (by simp [VR])
      exact hn _ _ _ w G I (hcont b) (Snap.le_refl G) (fun _ _ => rfl) h0 hf hs henv (put_defers a o.dst _)
    | some p =>
      obtain ⟨c, v, u⟩ := p
      rw [hr] at hw'
      obtain ⟨rfl, hcont⟩ := hw'
      have hat : h.at h.length = none := by simp [Heap.at]
      obtain ⟨res, cv, w', I', k1, k2, k3, k4, k5, k6, k7⟩ := op_sound hs he hc hr (fun _ => ⟨hf _ (Nat.le_refl _), hat⟩)
      have hagree : ∀ i, i < h.length → I' i = I i := fun i hi => k4 i (by omega)
      have hfresh : Fresh I' (h.upd u) := by
        intro i hi
        have hle := Heap.length_upd_le u h
        by_cases hin : h.length ∈ u.map (·.1)
        · have := Heap.length_upd_mem u h _ hin
          rw [k4 i (by omega)]; exact hf i (by omega)
        · rw [k5 hin]; exact hf i (by omega)
      have henv : EnvR G I' (setD env r.dst v) (a.put o.dst cv).tmps := by
        rw [hd]; exact (he.mono (Snap.le_refl G) k3).put k7
      have := hn _ _ (a.put o.dst cv) w' G I' hcont (Snap.le_refl G) (fun i hi => hagree i (by omega)) (by have := Heap.length_upd_le u h; omega) hfresh k6 henv (put_defers a o.dst cv)
      unfold Oper.wp
      rw [k1]
      rcases k2 with rfl | ⟨rfl, rfl⟩
      · exact this
      · exact this
  cases hop : r.op with
  | call f as =>
    unfold wpOp at hw
    simp only [hop] at hw
    obtain ⟨env1, h1, hwk, hw⟩ := hw
    obtain ⟨G1, I1, m1, m2, m3, m4, m5, m6⟩ := hwk G L I w a.tmps hs hf h0 he
    split at hw
    · rename_i k caps hk
      have hco := cOp_call_inv (hop ▸ hc)
      obtain ⟨fo, args, ts, ho, h1, h2⟩ := hco
      refine wpOp_call m5 m4 m6 ho h1 h2 hk hw ?_ ?_
      · intro v c h' G' I' w' hR g1 g2 g3 g4 g5 g6
        refine hn _ _ _ w' G' I' hR (Snap.le_trans m1 g1) (fun i hi => by rw [g2 i (by omega), m2 i hi]) (by omega) g4 g5 ?_ (put_defers a o.dst c)
        rw [hd]; exact (m6.mono g1 (le_of_agree m4 g2)).put g6
      · intro v c h' G' I' w' hR g1 g2 g3 g4 g5 g6
        exact hp _ v c h' w' G' I' hR (Snap.le_trans m1 g1) (fun i hi => by rw [g2 i (by omega), m2 i hi]) (by omega) g4 g5 g6 (m6.mono g1 (le_of_agree m4 g2))
    · exact hw.elim
  | panic x =>
    unfold wpOp at hw
    simp only [hop] at hw
    obtain ⟨xo, ho, h1⟩ := cOp_panic_inv (hop ▸ hc)
    have hx := ev_sound he h1
    split at hw
    · rename_i t v hxv
      rw [hxv] at hx
      simp only [VR] at hx
      obtain ⟨cv, hcx, hcv⟩ := hx
      have hrun : (execOp a.eval o).run P w = .halt (.panic (.iface t cv)) w := by
        unfold execOp
        simp [ho, hcx, Instr.panic, goPanic, Sem.run]
      unfold Oper.wp
      rw [hrun, Oper.upon_panic]
      exact hp _ _ _ h w G I hw (Snap.le_refl G) (fun _ _ => rfl) h0 hf hs (by simp only [VR]; exact ⟨cv, rfl, hcv⟩) he
    · exact hw.elim
  | _ => exact plain (by intro f as hx; rw [hop] at hx; cases hx) (by intro x hx; rw [hop] at hx; cases hx)
end
end Go.AM

namespace Go.AM
section
variable {P : Program} {w : World} {G : Snap} {L : Lk} {I : Inj} {h : Heap}

theorem wpListOps (ops : Array Oper) (Q : Exit → Act → World → Prop) (a : Act) (w : World) (hw : Go.wpList P ops Q ops.toList a w) : Go.wpOps P ops Q (List.range ops.size) a w := by
  have := wpOps_eq_wpList (P := P) (ops := ops) (Q := Q) ops.toList 0 (by intro j; simp)
  rw [List.range_eq_range']
  simp only [Array.length_toList] at this
  rw [this]; exact hw

theorem yielded_of {ops : Array Oper} {j d : Nat} (hd : (ops[j]?).bind (·.dst) = some d) {env : List AV} {tmps : Array Value} (he : EnvR G I env tmps) :
    (∀ b, env.getD d .undef = .bool b → yielded ops tmps j = some b) ∧ (∀ vs, env.getD d .undef = .tup vs → yielded ops tmps j = none) := by
  unfold yielded
  rw [hd]
  simp only [Option.bind_some]
  have hlt : ∀ v, env.getD d .undef = v → v ≠ .undef → ∃ c, tmps[d]? = some c ∧ VR G I v c := by
    intro v hv hne
    rcases Nat.lt_or_ge d env.length with hl | hl
    · obtain ⟨c, h1, h2⟩ := VRs_get he (List.getElem?_eq_getElem hl)
      refine ⟨c, by simpa using h1, ?_⟩
      simp [List.getD, List.getElem?_eq_getElem hl] at hv
      rw [← hv]; exact h2
    · simp [List.getD, List.getElem?_eq_none hl] at hv
      exact absurd hv.symm hne
  constructor
  · intro b hb
    obtain ⟨c, h1, h2⟩ := hlt _ hb (by simp)
    rw [h1, VR_bool h2]
  · intro vs hvs
    obtain ⟨c, h1, h2⟩ := hlt _ hvs (by simp)
    simp only [VR] at h2
    obtain ⟨xs, rfl, _⟩ := h2
    rw [h1]

theorem VR_skip : VR G I (.tup []) undef := by simp [VR, VRs, undef]

/-- The operations of a region in the order of the text. -/
theorem wpOps_sound (ops : Array Oper) {Q : Post} {G0 : Snap} {I0 : Inj} {n0 : Nat} {dfr : List Deferred} : ∀ (os : List Oper) (rs : List ROper) (env : List AV) (h : Heap) (G : Snap) (I : Inj) (a : Act) (w : World),
    cOpers P ops os = some rs → wpOps P n0 Q rs env h → G0.le G → (∀ i, i < n0 → I i = I0 i) → n0 ≤ h.length → St G L I h w → Fresh I h → EnvR G I env a.tmps → a.defers = dfr →
    Go.wpList P ops (Lift G0 L I0 n0 dfr Q) os a w
  | [], rs, env, h, G, I, a, w, hc, hw, hG, hI, hl, hs, hf, he, hd => by
    simp [cOpers] at hc; subst hc
    exact ⟨.normal, env, h, G, I, hw, trivial, hG, hI, hs, hf, hl, he, hd⟩
  | o :: os, rs, env, h, G, I, a, w, hc, hw, hG, hI, hl, hs, hf, he, hd => by
    simp only [cOpers] at hc
    split at hc <;> (try (simp only [reduceCtorEq] at hc; done))
    rename_i r rs' hr hrs
    injection hc with hc; subst hc
    obtain ⟨c1, c2, c3⟩ := cOper_inv hr
    have step : wpOp P n0 r Q (wpOps P n0 Q rs') env h → o.wp P a w (Go.wpList P ops (Lift G0 L I0 n0 dfr Q) os) (Lift G0 L I0 n0 dfr Q) := by
      intro hst
      refine wpOp_sound hs hf he c1 c2 hl hst ?_ ?_
      · intro env' h' a' w' G' I' hcont g1 g2 g3 g4 g5 g6 g7
        exact wpOps_sound ops os rs' env' h' G' I' a' w' hrs hcont (Snap.le_trans hG g1) (fun i hi => by rw [g2 i (by omega), hI i hi]) (by omega) g5 g4 g6 (by rw [g7, hd])
      · intro env' v c h' w' G' I' hq g1 g2 g3 g4 g5 g6 g7
        exact ⟨.panic v, env', h', G', I', hq, ⟨c, rfl, g6⟩, Snap.le_trans hG g1, fun i hi => by rw [g2 i (by omega), hI i hi], g5, g4, by omega, g7, hd⟩
    have skip : wpOps P n0 Q rs' (setD env r.dst (.tup [])) h → Go.wpList P ops (Lift G0 L I0 n0 dfr Q) os (a.put o.dst undef) w := by
      intro hsk
      exact wpOps_sound ops os rs' _ h G I _ w hrs hsk hG hI hl hs hf (by rw [c2]; exact he.put VR_skip) (by rw [put_defers, hd])
    unfold wpOps at hw
    unfold Go.wpList
    cases hg : o.guard with
    | none =>
      rw [hg] at c3
      simp only at c3
      rw [c3] at hw
      have hwant : Region.wanted o (yielded ops a.tmps) = true := by unfold Region.wanted; rw [hg]
      rw [hwant, if_pos rfl]
      exact .inl (step hw)
    | some p =>
      obtain ⟨j, want⟩ := p
      rw [hg] at c3
      simp only at c3
      obtain ⟨d, hdj, c4⟩ := c3
      rw [c4] at hw
      simp only at hw
      obtain ⟨y1, y2⟩ := yielded_of hdj he
      split at hw
      · rename_i b hb
        have hwant : Region.wanted o (yielded ops a.tmps) = (b == want) := by
          unfold Region.wanted; rw [hg]
          simp only [y1 b hb]
          cases b <;> cases want <;> rfl
        rw [hwant]
        cases hbw : (b == want) with
        | true => rw [if_pos rfl]; exact .inl (step (hw.1 hbw))
        | false => rw [if_neg (by simp)]; exact skip (hw.2 hbw)
      · rename_i vs hvs
        have hwant : Region.wanted o (yielded ops a.tmps) = false := by
          unfold Region.wanted; rw [hg]
          simp only [y2 vs hvs]
          rfl
        rw [hwant, if_neg (by simp)]
        exact skip hw
      · exact hw.elim
end
end Go.AM

namespace Go.AM

/-! What an operation names; how its run hangs on the slots and on the blocks. -/

def ROp.ros : ROp → List RO
  | .mv x | .box x | .faddr _ x | .fld _ _ x | .un _ x | .conv _ x | .slcA _ _ x | .isnil _ _ x | .clr _ _ x | .nilck x | .ext x _ | .len _ x | .mkif _ x | .tassert _ _ _ x | .panic x => [x]
  | .load _ a => [a]
  | .pick c a b => [c, a, b]
  | .alloc _ | .mkmap => []
  | .build _ ps => ps.map (·.2.2)
  | .bslice _ _ _ ps => ps.map (·.2)
  | .store _ a x => [a, x]
  | .iaS _ x i | .iaA _ _ x i | .ixA _ _ _ x i | .ixS x i => [x, i]
  | .bin _ x y | .eq _ _ x y | .mm _ x y | .app _ _ x y => [x, y]
  | .slc _ x lo hi | .slcS x lo hi => [x] ++ lo.toList ++ hi.toList
  | .mkfn _ caps => caps
  | .mkslice _ _ _ l c => [l, c]
  | .look _ _ _ m k => [m, k]
  | .mupd _ m k v => [m, k, v]
  | .call f args => f :: args

theorem fillA_congr {env env' : List AV} : ∀ (ps : List (Nat × Nat × RO)) (cs : List AV), (∀ x ∈ ps.map (·.2.2), RO.ev env x = RO.ev env' x) → fillA env cs ps = fillA env' cs ps
  | [], cs, _ => rfl
  | (off, size, x) :: ps, cs, hx => by
    have h1 := hx x (by simp)
    simp only [fillA, h1]
    split
    · rw [fillA_congr ps _ fun y hy => hx y (by simp at hy ⊢; exact .inr hy)]
    · rfl

theorem map_congr_ev {env env' : List AV} {l : List RO} (hx : ∀ x ∈ l, RO.ev env x = RO.ev env' x) : l.map (RO.ev env) = l.map (RO.ev env') := List.map_congr_left hx

theorem omap_congr_ev {env env' : List AV} {l : Option RO} (hx : ∀ x ∈ l.toList, RO.ev env x = RO.ev env' x) : l.map (RO.ev env) = l.map (RO.ev env') := by
  cases l with
  | none => rfl
  | some x => simp [hx x (by simp)]

theorem run_congr {env env' : List AV} (r : ROp) (h : Heap) (n : Nat) (hx : ∀ x ∈ r.ros, RO.ev env x = RO.ev env' x) : r.run env h n = r.run env' h n := by
  cases r with
  | slc sz x lo hi =>
    have e1 := hx x (by simp [ROp.ros])
    have e2 := omap_congr_ev (env := env) (env' := env') (l := lo) fun y hy => hx y (by simp [ROp.ros] at hy ⊢; simp [hy])
    have e3 := omap_congr_ev (env := env) (env' := env') (l := hi) fun y hy => hx y (by simp [ROp.ros] at hy ⊢; simp [hy])
    simp only [ROp.run, e1, e2, e3]
  | slcS x lo hi =>
    have e1 := hx x (by simp [ROp.ros])
    have e2 := omap_congr_ev (env := env) (env' := env') (l := lo) fun y hy => hx y (by simp [ROp.ros] at hy ⊢; simp [hy])
    have e3 := omap_congr_ev (env := env) (env' := env') (l := hi) fun y hy => hx y (by simp [ROp.ros] at hy ⊢; simp [hy])
    simp only [ROp.run, e1, e2, e3]
  | build z ps =>
    simp only [ROp.run, fillA_congr ps z hx]
  | bslice sz len z ps =>
    have := fillA_congr (env := env) (env' := env') (ps.map fun (i, x) => (i * sz, sz, x)) ((List.replicate len z).flatten) (by
      intro y hy
      apply hx
      simp only [List.map_map, List.mem_map] at hy
      obtain ⟨p, hp, rfl⟩ := hy
      simp only [ROp.ros, List.mem_map]
      exact ⟨p, hp, rfl⟩)
    simp only [ROp.run, this]
  | mkfn f caps =>
    have := map_congr_ev (l := caps) hx
    simp only [ROp.run, this]
  | alloc z => rfl
  | mkmap => rfl
  | call f args => rfl
  | _ =>
    simp [ROp.ros] at hx
    simp only [ROp.run, hx]

def ROp.heapy : ROp → Bool
  | .alloc _ | .box _ | .bslice .. | .load .. | .store .. | .slcA .. | .clr .. | .app .. | .mkslice .. | .mkmap | .look .. | .mupd .. | .call .. | .panic _ => true
  | .len k _ => k == 2
  | _ => false

/-- What does not look at blocks. -/
theorem run_dull {env : List AV} {h : Heap} {n : Nat} (r : ROp) (hr : r.heapy = false) (h' : Heap) (n' : Nat) : r.run env h n = r.run env h' n' ∧ ∀ c v u, r.run env h n = some (c, v, u) → u = [] := by
  cases r <;> simp only [ROp.heapy, reduceCtorEq] at hr
  case len k x =>
    have hk : k ≠ 2 := by intro e; subst e; simp at hr
    refine ⟨?_, ?_⟩
    · simp only [ROp.run]
      generalize x.ev env = q
      rcases k with _ | _ | _ | k <;> (first | omega | (cases q <;> rfl))
    · intro c v u
      simp only [ROp.run]
      rcases k with _ | _ | _ | k
      · cases x.ev env <;> simp [okv] <;> intros <;> simp_all
      · cases x.ev env <;> simp [okv] <;> intros <;> simp_all
      · omega
      · simp
  all_goals
    refine ⟨rfl, ?_⟩
    intro c v u
    simp only [ROp.run]
    try unfold binA
    (repeat' split) <;> simp only [okv, oki, Option.some.injEq, Prod.mk.injEq, reduceCtorEq, false_implies, implies_true] <;> (try (rintro ⟨_, _, rfl⟩; rfl)) <;> (try (rintro _ _ rfl; rfl))

/-- Blocks that are there in one heap are there in the other one. -/
def Heap.sub (h h' : Heap) : Prop := ∀ p k, h.at p = some k → h'.at p = some k

theorem sliceCells_mono {h h' : Heap} (hh : h.sub h') {sz : Nat} {a : AV} {x : Nat × List AV} (hs : sliceCells h sz a = some x) : sliceCells h' sz a = some x := by
  cases a <;> simp only [sliceCells] at hs ⊢ <;> (try exact hs)
  split at hs
  · rename_i hz
    rw [if_pos hz]
    rename_i id off len sz'
    cases hat : h.at id with
    | none => rw [hat] at hs; simp at hs
    | some k => rw [hh _ _ hat]; rw [hat] at hs; exact hs
  · cases hs

theorem run_mono {env : List AV} {h h' : Heap} {n : Nat} (hh : h.sub h') (r : ROp) {x : Bool × AV × Upd} (hr : r.run env h n = some x) : r.run env h' n = some x := by
  have at_ : ∀ id, h.at id = none ∨ ∃ k, h.at id = some k ∧ h'.at id = some k := by
    intro id
    cases hat : h.at id with
    | none => exact .inl rfl
    | some k => exact .inr ⟨k, rfl, hh _ _ hat⟩
  by_cases hd : r.heapy = false
  · rw [← hr]; exact ((run_dull r hd h' n).1).symm
  · cases r <;> simp only [ROp.heapy, not_true_eq_false, Bool.true_eq_false, not_false_eq_true] at hd <;> (try exact hr)
    case load ag a =>
      simp only [ROp.run] at hr ⊢
      cases hx : a.ev env <;> rw [hx] at hr <;> (try exact hr)
      rename_i id off
      rcases at_ id with h0 | ⟨k, h1, h2⟩
      · simp [h0] at hr
      · simp only [h1] at hr; simp only [h2]; exact hr
    case store m a x =>
      simp only [ROp.run] at hr ⊢
      cases hx : a.ev env <;> rw [hx] at hr <;> (try exact hr)
      rename_i id off
      rcases at_ id with h0 | ⟨k, h1, h2⟩
      · simp [h0] at hr
      · simp only [h1] at hr; simp only [h2]; exact hr
    case slcA m sz x =>
      simp only [ROp.run] at hr ⊢
      cases hx : x.ev env <;> rw [hx] at hr <;> (try exact hr)
      rename_i id off
      rcases at_ id with h0 | ⟨k, h1, h2⟩
      · simp [h0] at hr
      · simp only [h1] at hr; simp only [h2]; exact hr
    case clr sz z x =>
      simp only [ROp.run] at hr ⊢
      cases hx : x.ev env <;> rw [hx] at hr <;> (try exact hr)
      rename_i id off ln sz'
      rcases at_ id with h0 | ⟨k, h1, h2⟩
      · simp [h0] at hr
      · simp only [h1] at hr; simp only [h2]; exact hr
    case len k x =>
      have hk : k = 2 := by simpa using hd
      subst hk
      simp only [ROp.run] at hr ⊢
      cases hx : x.ev env <;> rw [hx] at hr <;> (try exact hr)
      rename_i id
      rcases at_ id with h0 | ⟨k, h1, h2⟩
      · simp [h0] at hr
      · simp only [h1] at hr; simp only [h2]; exact hr
    case app sz by_ s x =>
      simp only [ROp.run] at hr ⊢
      cases hsc : sliceCells h sz (x.ev env) with
      | none => simp [hsc] at hr
      | some mn =>
        rw [sliceCells_mono hh hsc]
        rw [hsc] at hr
        obtain ⟨m, news⟩ := mn
        simp only at hr ⊢
        cases hx : s.ev env <;> rw [hx] at hr <;> (try exact hr)
        rename_i id off ln sz'
        rcases at_ id with h0 | ⟨k, h1, h2⟩
        · simp [h0] at hr
        · simp only [h1] at hr; simp only [h2]; exact hr
    case look ag z ok m k =>
      simp only [ROp.run] at hr ⊢
      cases hx : m.ev env <;> rw [hx] at hr <;> (try exact hr)
      rename_i id
      rcases at_ id with h0 | ⟨kk, h1, h2⟩
      · simp [h0] at hr
      · simp only [h1] at hr; simp only [h2]; exact hr
    case mupd ag m k v =>
      simp only [ROp.run] at hr ⊢
      cases hx : m.ev env <;> rw [hx] at hr <;> (try exact hr)
      rename_i id
      rcases at_ id with h0 | ⟨kk, h1, h2⟩
      · simp [h0] at hr
      · simp only [h1] at hr; simp only [h2]; exact hr
end Go.AM

namespace Go.AM

/-- The block that a value stands for. -/
def AV.idOf : AV → List Nat
  | .ptr i _ => [i]
  | .slice i _ _ _ => [i]
  | .mapr i => [i]
  | _ => []

mutual
def AV.noId : AV → Bool
  | .agg cs => noIdL cs
  | .tup cs => noIdL cs
  | .ptr _ _ => false
  | .vptr cs _ => noIdL cs
  | .lit _ es => noIdL es
  | .slice _ _ _ _ => false
  | .mapr _ => false
  | .fn _ cap => noIdL cap
  | .iface _ v => AV.noId v
  | _ => true
def noIdL : List AV → Bool
  | [] => true
  | a :: as => AV.noId a && noIdL as
end

/-- The blocks that an operation may look at: none: all. -/
def ROp.foot (env : List AV) : ROp → Option (List Nat)
  | .load _ a => some (a.ev env).idOf
  | .store _ a _ => some (a.ev env).idOf
  | .slcA _ _ x => some (x.ev env).idOf
  | .clr _ _ x => some (x.ev env).idOf
  | .len _ x => some (x.ev env).idOf
  | .look _ _ _ m _ => some (m.ev env).idOf
  | .mupd _ m _ _ => some (m.ev env).idOf
  | .app _ _ s x => some ((s.ev env).idOf ++ (x.ev env).idOf)
  | .call f as => if (f.ev env).noId && noIdL (as.map (RO.ev env)) then some [] else none
  | _ => some []

structure LogE where
  rd : Option (List Nat)
  lo : Nat
  hi : Nat
  tc : List Nat
  deriving Inhabited

def ordB (bef : List Nat) (i j : Nat) : Bool := (bef.getD i 0).testBit j

def maskAux : Heap → Nat → List Nat → Heap
  | [], _, _ => []
  | k :: h, i, M => (if M.contains i then none else k) :: maskAux h (i + 1) M
def mask (h : Heap) (M : List Nat) : Heap := if M.isEmpty then h else maskAux h 0 M

theorem maskAux_at : ∀ (h : Heap) (i : Nat) (M : List Nat) (p : Nat), (maskAux h i M).at p = if M.contains (i + p) then none else h.at p
  | [], i, M, p => by simp [maskAux, Heap.at]
  | k :: h, i, M, 0 => by simp [maskAux, Heap.at]
  | k :: h, i, M, p + 1 => by
    have := maskAux_at h (i + 1) M p
    unfold Heap.at at this ⊢
    simp only [maskAux, List.getElem?_cons_succ]
    rw [this]
    have e : i + 1 + p = i + (p + 1) := by omega
    rw [e]

theorem mask_at (h : Heap) (M : List Nat) (p : Nat) : (mask h M).at p = if M.contains p then none else h.at p := by
  unfold mask
  split
  · rename_i hM
    have : M = [] := by simpa using hM
    subst this; simp
  · have := maskAux_at h 0 M p
    simpa using this

theorem maskAux_length : ∀ (h : Heap) (i : Nat) (M : List Nat), (maskAux h i M).length = h.length
  | [], _, _ => rfl
  | k :: h, i, M => by simp [maskAux, maskAux_length h (i + 1) M]

theorem mask_length (h : Heap) (M : List Nat) : (mask h M).length = h.length := by
  unfold mask; split
  · rfl
  · exact maskAux_length h 0 M

def masked (bef : List Nat) (i : Nat) : List LogE → Nat → List Nat
  | [], _ => []
  | l :: ls, j => (if ordB bef i j then [] else l.tc) ++ masked bef i ls (j + 1)

theorem mem_masked (bef : List Nat) (i : Nat) : ∀ (log : List LogE) (j0 p : Nat), p ∈ masked bef i log j0 ↔ ∃ j l, log[j]? = some l ∧ ordB bef i (j0 + j) = false ∧ p ∈ l.tc
  | [], j0, p => by simp [masked]
  | l :: ls, j0, p => by
    simp only [masked, List.mem_append, mem_masked bef i ls (j0 + 1) p]
    constructor
    · rintro (h | ⟨j, l', h1, h2, h3⟩)
      · split at h
        · simp at h
        · rename_i hn
          exact ⟨0, l, rfl, by simpa using hn, h⟩
      · exact ⟨j + 1, l', by simpa using h1, by rw [← h2]; congr 1; omega, h3⟩
    · rintro ⟨j, l', h1, h2, h3⟩
      cases j with
      | zero =>
        simp at h1; subst h1
        left; rw [if_neg (by simpa using h2)]; exact h3
      | succ j =>
        right
        exact ⟨j, l', by simpa using h1, by rw [← h2]; congr 1; omega, h3⟩

def onlyAux : Heap → Nat → List Nat → Heap
  | [], _, _ => []
  | k :: h, i, l => (if l.contains i then k else none) :: onlyAux h (i + 1) l
def only : Option (List Nat) → Heap → Heap
  | none, h => h
  | some l, h => onlyAux h 0 l

theorem onlyAux_at : ∀ (h : Heap) (i : Nat) (l : List Nat) (p : Nat), (onlyAux h i l).at p = if l.contains (i + p) then h.at p else none
  | [], i, l, p => by simp [onlyAux, Heap.at]
  | k :: h, i, l, 0 => by simp [onlyAux, Heap.at]
  | k :: h, i, l, p + 1 => by
    have := onlyAux_at h (i + 1) l p
    unfold Heap.at at this ⊢
    simp only [onlyAux, List.getElem?_cons_succ]
    rw [this]
    have e : i + 1 + p = i + (p + 1) := by omega
    rw [e]

theorem onlyAux_length : ∀ (h : Heap) (i : Nat) (l : List Nat), (onlyAux h i l).length = h.length
  | [], _, _ => rfl
  | k :: h, i, l => by simp [onlyAux, onlyAux_length h (i + 1) l]

/-- What an operation of a region that draws its order may look at. -/
def vw (bef : List Nat) (i : Nat) (log : List LogE) (f : Option (List Nat)) (h : Heap) : Heap := only f (mask h (masked bef i log 0))

theorem vw_at (bef : List Nat) (i : Nat) (log : List LogE) (f : Option (List Nat)) (h : Heap) (p : Nat) (k : Blk) (hk : (vw bef i log f h).at p = some k) :
    (mask h (masked bef i log 0)).at p = some k ∧ (f = none ∨ ∃ l, f = some l ∧ p ∈ l) := by
  unfold vw at hk
  cases f with
  | none => exact ⟨hk, .inl rfl⟩
  | some l =>
    simp only [only] at hk
    rw [onlyAux_at] at hk
    split at hk
    · rename_i hc
      exact ⟨hk, .inr ⟨l, rfl, by simpa using hc⟩⟩
    · cases hk

theorem vw_length (bef : List Nat) (i : Nat) (log : List LogE) (f : Option (List Nat)) (h : Heap) : (vw bef i log f h).length = h.length := by
  unfold vw
  cases f with
  | none => exact mask_length _ _
  | some l => simp only [only, onlyAux_length]; exact mask_length _ _

/-- Does an operation look at a block, or touch it? -/
def LogE.sees (l : LogE) (p : Nat) : Bool := (match l.rd with | none => true | some ps => ps.contains p) || l.tc.contains p

def wchkB (bef : List Nat) (i : Nat) (log : List LogE) (p : Nat) : Bool :=
  log.zipIdx.all (fun x => !x.1.sees p || ordB bef i x.2) ||
  log.zipIdx.any (fun x => decide (x.1.lo ≤ p) && x.1.tc.contains p && ordB bef i x.2 && log.zipIdx.all (fun y => ordB bef i y.2 || !ordB bef y.2 x.2))

theorem wchk_spec {bef : List Nat} {i : Nat} {log : List LogE} {p : Nat} (h : wchkB bef i log p = true) :
    (∀ j l, log[j]? = some l → l.sees p = true → ordB bef i j = true) ∨
    (∃ k l, log[k]? = some l ∧ l.lo ≤ p ∧ p ∈ l.tc ∧ ordB bef i k = true ∧ ∀ j l', log[j]? = some l' → ordB bef i j = false → ordB bef j k = false) := by
  unfold wchkB at h
  simp only [Bool.or_eq_true] at h
  rcases h with h | h
  · left
    intro j l hj hl
    have := (List.all_eq_true.1 h) (l, j) (List.mem_zipIdx_iff_getElem?.2 hj)
    simpa [hl] using this
  · right
    obtain ⟨⟨l, k⟩, hm, hx⟩ := List.any_eq_true.1 h
    simp only [Bool.and_eq_true, decide_eq_true_eq] at hx
    obtain ⟨⟨⟨h1, h2⟩, h3⟩, h4⟩ := hx
    refine ⟨k, l, List.mem_zipIdx_iff_getElem?.1 hm, h1, by simpa using h2, h3, fun j l' hj hn => ?_⟩
    have := (List.all_eq_true.1 h4) (l', j) (List.mem_zipIdx_iff_getElem?.2 hj)
    simpa [hn] using this

mutual
/-- Are all ids below a bound? -/
def AV.bnd (n : Nat) : AV → Bool
  | .agg cs => bndL n cs
  | .tup cs => bndL n cs
  | .ptr i _ => decide (i < n)
  | .vptr cs _ => bndL n cs
  | .lit _ es => bndL n es
  | .slice i _ _ _ => decide (i < n)
  | .mapr i => decide (i < n)
  | .fn _ cap => bndL n cap
  | .iface _ v => AV.bnd n v
  | _ => true
def bndL (n : Nat) : List AV → Bool
  | [] => true
  | a :: as => AV.bnd n a && bndL n as
end

section
variable {G : Snap} {I I' : Inj} {n : Nat}
mutual
theorem VR_bnd (ha : ∀ i, i < n → I' i = I i) : ∀ (a : AV) (c : Value), a.bnd n = true → VR G I a c → VR G I' a c
  | .bool b, c, _, h => by simpa [VR] using h
  | .int k m, c, _, h => by simpa [VR] using h
  | .str s, c, _, h => by simpa [VR] using h
  | .agg cs, c, hp, h => by
    simp only [AV.bnd] at hp
    simp only [VR] at h ⊢; obtain ⟨vs, h1, h2⟩ := h; exact ⟨vs, h1, VRs_bnd ha cs vs hp h2⟩
  | .tup cs, c, hp, h => by
    simp only [AV.bnd] at hp
    simp only [VR] at h ⊢; obtain ⟨vs, h1, h2⟩ := h; exact ⟨vs, h1, VRs_bnd ha cs vs hp h2⟩
  | .nilp, c, _, h => by simpa [VR] using h
  | .ptr id off, c, hp, h => by
    simp only [AV.bnd, decide_eq_true_eq] at hp
    simp only [VR] at h ⊢; obtain ⟨b, ba, e, h1, h2⟩ := h; exact ⟨b, ba, e, by rw [ha _ hp]; exact h1, h2⟩
  | .vptr cs off, c, hp, h => by
    simp only [AV.bnd] at hp
    simp only [VR] at h ⊢; obtain ⟨b, o, obj, vs, h1, h2, h3, h4⟩ := h
    exact ⟨b, o, obj, vs, h1, h2, VRs_bnd ha cs vs hp h3, h4⟩
  | .nils, c, _, h => by simpa [VR] using h
  | .emp, c, _, h => by simpa [VR] using h
  | .lit sz es, c, hp, h => by
    simp only [AV.bnd] at hp
    simp only [VR] at h ⊢
    rcases h with h | ⟨b, o, obj, cap, vs, h1, h2, h3, h4, h5⟩
    · exact .inl h
    · exact .inr ⟨b, o, obj, cap, vs, h1, h2, h3, VRs_bnd ha es vs hp h4, h5⟩
  | .slice id off len sz, c, hp, h => by
    simp only [AV.bnd, decide_eq_true_eq] at hp
    simp only [VR] at h ⊢
    rcases h with h | ⟨b, ba, e, cap, h1, h2⟩
    · exact .inl h
    · exact .inr ⟨b, ba, e, cap, by rw [ha _ hp]; exact h1, h2⟩
  | .nilmap, c, _, h => by simpa [VR] using h
  | .mapr id, c, hp, h => by
    simp only [AV.bnd, decide_eq_true_eq] at hp
    simp only [VR] at h ⊢; obtain ⟨b, ba, e, h1, h2⟩ := h; exact ⟨b, ba, e, by rw [ha _ hp]; exact h1, h2⟩
  | .nilfn, c, _, h => by simpa [VR] using h
  | .fn f cap, c, hp, h => by
    simp only [AV.bnd] at hp
    simp only [VR] at h ⊢; obtain ⟨vs, h1, h2⟩ := h; exact ⟨vs, h1, VRs_bnd ha cap vs hp h2⟩
  | .nilif, c, _, h => by simpa [VR] using h
  | .iface t v, c, hp, h => by
    simp only [AV.bnd] at hp
    simp only [VR] at h ⊢; obtain ⟨v', h1, h2⟩ := h; exact ⟨v', h1, VR_bnd ha v v' hp h2⟩
  | .undef, _, _, _ => by simp [VR]
theorem VRs_bnd (ha : ∀ i, i < n → I' i = I i) : ∀ (as : List AV) (cs : List Value), bndL n as = true → VRs G I as cs → VRs G I' as cs
  | [], cs, _, h => by simpa [VRs] using h
  | a :: as, cs, hp, h => by
    simp only [bndL, Bool.and_eq_true] at hp
    simp only [VRs] at h ⊢; obtain ⟨v, r, h1, h2, h3⟩ := h
    exact ⟨v, r, h1, VR_bnd ha a v hp.1 h2, VRs_bnd ha as r hp.2 h3⟩
end
end

def blkBnd (n : Nat) : Option Blk → Bool
  | some (.cells cs) => bndL n cs
  | some (.map es) => bndL n (es.map (·.1)) && bndL n (es.map (·.2))
  | none => true
def heapBnd (n : Nat) (h : Heap) : Bool := h.all (blkBnd n)

def newsU (n : Nat) : List (Option Blk) → Upd
  | [] => []
  | k :: ks => (n, k) :: newsU (n + 1) ks

theorem newsU_upd : ∀ (ks : List (Option Blk)) (h : Heap), h.upd (newsU h.length ks) = h ++ ks
  | [], h => by simp [newsU, Heap.upd]
  | k :: ks, h => by
    simp only [newsU, Heap.upd]
    have e : h.set h.length k = h ++ [k] := by
      unfold Heap.set; simp
    rw [e]
    have := newsU_upd ks (h ++ [k])
    rw [List.length_append] at this
    simp only [List.length_cons, List.length_nil, Nat.zero_add] at this
    rw [this]; simp

theorem newsU_fst : ∀ (ks : List (Option Blk)) (n : Nat), (newsU n ks).map (·.1) = List.range' n ks.length
  | [], n => by simp [newsU]
  | k :: ks, n => by simp [newsU, newsU_fst ks (n + 1), List.range'_succ]

theorem upd_append : ∀ (u u' : Upd) (h : Heap), h.upd (u ++ u') = (h.upd u).upd u'
  | [], _, _ => rfl
  | (i, k) :: u, u', h => by simp only [List.cons_append, Heap.upd]; exact upd_append u u' _

theorem upd_length_lt : ∀ (u : Upd) (h : Heap), (∀ p ∈ u.map (·.1), p < h.length) → (h.upd u).length = h.length
  | [], h, _ => rfl
  | (i, k) :: u, h, hu => by
    have hi : i < h.length := hu i (by simp)
    have e : (h.set i k).length = h.length := by unfold Heap.set; rw [if_pos hi]; simp
    simp only [Heap.upd]
    rw [upd_length_lt u _ (fun p hp => by rw [e]; exact hu p (by simp at hp ⊢; exact .inr hp)), e]

theorem upd_uo_length {uo : Upd} {h : Heap} {news : List (Option Blk)} (hu : ∀ p ∈ uo.map (·.1), p < h.length) : (h.upd (uo ++ newsU h.length news)).length = h.length + news.length := by
  have e := upd_length_lt uo h hu
  rw [upd_append]
  have := newsU_upd news (h.upd uo)
  rw [e] at this
  rw [this, List.length_append, e]

theorem uo_lt {bef : List Nat} {i : Nat} {log : List LogE} {uo : Upd} {n : Nat} (h : (uo.map (·.1)).all (fun p => decide (p < n) && wchkB bef i log p) = true) : ∀ p ∈ uo.map (·.1), p < n := by
  intro p hp
  have := (List.all_eq_true.1 h) p hp
  simp only [Bool.and_eq_true, decide_eq_true_eq] at this
  exact this.1

/-- A region that draws its order: walked in the order of the text, each operation over what those that may come later haven't touched. -/
def DrawOK (P : Program) (bef : List Nat) (K : List AV → Heap → Prop) : List ROper → Nat → List LogE → List AV → Heap → Prop
  | [], _, _, env, h => K env h
  | o :: os, i, log, env, h =>
    let skip : Prop := DrawOK P bef K os (i + 1) (log ++ [⟨o.op.foot env, h.length, h.length, []⟩]) (setD env o.dst (.tup [])) h
    let go : Prop := match o.op with
      | .panic _ => False
      | .call f args => match f.ev env with
        | .fn k caps => ∃ v uo news, CallsA P k (args.map (RO.ev env) ++ caps) (vw bef i log (o.op.foot env) h) (fun out h' => out = .ret v ∧ h' = (vw bef i log (o.op.foot env) h).upd (uo ++ newsU h.length news)) ∧
            (uo.map (·.1)).all (fun p => decide (p < h.length) && wchkB bef i log p) = true ∧
            (bndL h.length (args.map (RO.ev env) ++ caps) && heapBnd h.length (vw bef i log (o.op.foot env) h)) = true ∧
            DrawOK P bef K os (i + 1) (log ++ [⟨o.op.foot env, h.length, h.length + news.length, uo.map (·.1) ++ List.range' h.length news.length⟩]) (setD env o.dst v) (h.upd (uo ++ newsU h.length news))
        | _ => False
      | r => match r.run env (vw bef i log (o.op.foot env) h) h.length with
        | some (c, v, u) => c = true ∧ (u.map (·.1)).all (fun p => decide (h.length ≤ p) || wchkB bef i log p) = true ∧
            DrawOK P bef K os (i + 1) (log ++ [⟨o.op.foot env, h.length, (h.upd u).length, u.map (·.1)⟩]) (setD env o.dst v) (h.upd u)
        | none => False
    match o.guard with
    | none => go
    | some (d, want) => match env.getD d .undef with
      | .bool b => ((b == want) = true → go) ∧ ((b == want) = false → skip)
      | .tup _ => skip
      | _ => False

def skipG (o : ROper) (env : List AV) : Prop := ∃ d want, o.guard = some (d, want) ∧ ((∃ b, env.getD d .undef = .bool b ∧ (b == want) = false) ∨ ∃ vs, env.getD d .undef = .tup vs)
def goG (o : ROper) (env : List AV) : Prop := o.guard = none ∨ ∃ d want b, o.guard = some (d, want) ∧ env.getD d .undef = .bool b ∧ (b == want) = true

def Fact (P : Program) (bef : List Nat) (o : ROper) (i : Nat) (log : List LogE) (env : List AV) (h : Heap) (v : AV) (u : Upd) : Prop :=
  (skipG o env ∧ v = .tup [] ∧ u = []) ∨
  (goG o env ∧ (∀ x, o.op ≠ .panic x) ∧ (
    ((∀ f as, o.op ≠ .call f as) ∧ o.op.run env (vw bef i log (o.op.foot env) h) h.length = some (true, v, u) ∧ ∀ p ∈ u.map (·.1), h.length ≤ p ∨ wchkB bef i log p = true) ∨
    (∃ f as k caps uo news, o.op = .call f as ∧ f.ev env = .fn k caps ∧
      CallsA P k (as.map (RO.ev env) ++ caps) (vw bef i log (o.op.foot env) h) (fun out h' => out = .ret v ∧ h' = (vw bef i log (o.op.foot env) h).upd (uo ++ newsU h.length news)) ∧
      (uo.map (·.1)).all (fun p => decide (p < h.length) && wchkB bef i log p) = true ∧
      (bndL h.length (as.map (RO.ev env) ++ caps) && heapBnd h.length (vw bef i log (o.op.foot env) h)) = true ∧ u = uo ++ newsU h.length news)))

/-- The trace of a walk in the order of the text. -/
structure Trace (P : Program) (bef : List Nat) (rs : List ROper) (i0 : Nat) (log0 : List LogE) (env0 : List AV) (h0 : Heap) where
  E : Nat → List AV
  H : Nat → Heap
  V : Nat → AV
  U : Nat → Upd
  e0 : E 0 = env0
  hh0 : H 0 = h0
  step : ∀ k r, rs[k]? = some r → E (k + 1) = setD (E k) r.dst (V k) ∧ H (k + 1) = (H k).upd (U k)
  fact : ∀ k r, rs[k]? = some r → Fact P bef r (i0 + k) (log0 ++ (List.range k).map fun j => ⟨((rs[j]?).map fun r => r.op.foot (E j)).getD none, (H j).length, (H (j + 1)).length, (U j).map (·.1)⟩) (E k) (H k) (V k) (U k)

theorem Trace.cons {P : Program} {bef : List Nat} {r : ROper} {rs : List ROper} {i0 : Nat} {log0 : List LogE} {env0 : List AV} {h0 : Heap} {v : AV} {u : Upd}
    (hf : Fact P bef r i0 log0 env0 h0 v u) (T : Trace P bef rs (i0 + 1) (log0 ++ [⟨r.op.foot env0, h0.length, (h0.upd u).length, u.map (·.1)⟩]) (setD env0 r.dst v) (h0.upd u)) :
    ∃ T' : Trace P bef (r :: rs) i0 log0 env0 h0, T'.E (rs.length + 1) = T.E rs.length ∧ T'.H (rs.length + 1) = T.H rs.length := by
  refine ⟨{
    E := fun k => match k with | 0 => env0 | k + 1 => T.E k
    H := fun k => match k with | 0 => h0 | k + 1 => T.H k
    V := fun k => match k with | 0 => v | k + 1 => T.V k
    U := fun k => match k with | 0 => u | k + 1 => T.U k
    e0 := rfl
    hh0 := rfl
    step := ?_
    fact := ?_ }, rfl, rfl⟩
  · intro k q hq
    cases k with
    | zero => simp at hq; subst hq; exact ⟨T.e0, T.hh0⟩
    | succ k => exact T.step k q (by simpa using hq)
  · intro k q hq
    cases k with
    | zero => simp at hq; subst hq; simpa using hf
    | succ k =>
      have := T.fact k q (by simpa using hq)
      have e1 : i0 + 1 + k = i0 + (k + 1) := by omega
      rw [e1] at this
      refine (congrArg (fun L => Fact P bef q (i0 + (k + 1)) L (T.E k) (T.H k) (T.V k) (T.U k)) ?_).mpr this
      rw [List.append_assoc]
      congr 1
      rw [List.range_succ_eq_map]
      simp only [List.map_cons, List.map_map, List.singleton_append]
      congr 1
      simp [T.hh0, T.e0]

theorem DrawOK.trace {P : Program} {bef : List Nat} {K : List AV → Heap → Prop} : ∀ (rs : List ROper) (i : Nat) (log : List LogE) (env : List AV) (h : Heap), DrawOK P bef K rs i log env h →
    ∃ T : Trace P bef rs i log env h, K (T.E rs.length) (T.H rs.length)
  | [], i, log, env, h, hd => ⟨⟨fun _ => env, fun _ => h, fun _ => .undef, fun _ => [], rfl, rfl, by simp, by simp⟩, hd⟩
  | o :: os, i, log, env, h, hd => by
    have fin : ∀ {v u}, Fact P bef o i log env h v u → DrawOK P bef K os (i + 1) (log ++ [⟨o.op.foot env, h.length, (h.upd u).length, u.map (·.1)⟩]) (setD env o.dst v) (h.upd u) →
        ∃ T : Trace P bef (o :: os) i log env h, K (T.E (o :: os).length) (T.H (o :: os).length) := by
      intro v u hf hn
      obtain ⟨T, hK⟩ := DrawOK.trace os _ _ _ _ hn
      obtain ⟨T', h1, h2⟩ := T.cons hf
      exact ⟨T', by simp only [List.length_cons]; rw [h1, h2]; exact hK⟩
    have skip : skipG o env → DrawOK P bef K os (i + 1) (log ++ [⟨o.op.foot env, h.length, h.length, []⟩]) (setD env o.dst (.tup [])) h → ∃ T : Trace P bef (o :: os) i log env h, K (T.E (o :: os).length) (T.H (o :: os).length) :=
      fun hg hn => fin (v := .tup []) (u := []) (.inl ⟨hg, rfl, rfl⟩) (by simpa [Heap.upd] using hn)
    have go : goG o env → (match o.op with
      | .panic _ => False
      | .call f args => match f.ev env with
        | .fn k caps => ∃ v uo news, CallsA P k (args.map (RO.ev env) ++ caps) (vw bef i log (o.op.foot env) h) (fun out h' => out = .ret v ∧ h' = (vw bef i log (o.op.foot env) h).upd (uo ++ newsU h.length news)) ∧
            (uo.map (·.1)).all (fun p => decide (p < h.length) && wchkB bef i log p) = true ∧
            (bndL h.length (args.map (RO.ev env) ++ caps) && heapBnd h.length (vw bef i log (o.op.foot env) h)) = true ∧
            DrawOK P bef K os (i + 1) (log ++ [⟨o.op.foot env, h.length, h.length + news.length, uo.map (·.1) ++ List.range' h.length news.length⟩]) (setD env o.dst v) (h.upd (uo ++ newsU h.length news))
        | _ => False
      | r => match r.run env (vw bef i log (o.op.foot env) h) h.length with
        | some (c, v, u) => c = true ∧ (u.map (·.1)).all (fun p => decide (h.length ≤ p) || wchkB bef i log p) = true ∧
            DrawOK P bef K os (i + 1) (log ++ [⟨o.op.foot env, h.length, (h.upd u).length, u.map (·.1)⟩]) (setD env o.dst v) (h.upd u)
        | none => False) → ∃ T : Trace P bef (o :: os) i log env h, K (T.E (o :: os).length) (T.H (o :: os).length) := by
      intro hg hgo
      split at hgo
      · exact hgo.elim
      · rename_i f args hop
        split at hgo
        · rename_i k caps hk
          obtain ⟨v, uo, news, g1, g0, g2, g3⟩ := hgo
          refine fin (v := v) (u := uo ++ newsU h.length news) (.inr ⟨hg, by rw [hop]; simp, .inr ⟨f, args, k, caps, uo, news, hop, hk, g1, g0, g2, rfl⟩⟩) ?_
          rw [upd_uo_length (uo_lt g0), List.map_append, newsU_fst]
          exact g3
        · exact hgo.elim
      · rename_i r n1 n2
        split at hgo
        · rename_i c v u hr
          obtain ⟨rfl, g2, g3⟩ := hgo
          refine fin (v := v) (u := u) (.inr ⟨hg, n1, .inl ⟨n2, hr, fun p hp => ?_⟩⟩) g3
          have := (List.all_eq_true.1 g2) p hp
          simpa using this
        · exact hgo.elim
    unfold DrawOK at hd
    simp only at hd
    split at hd
    · rename_i hg
      exact go (.inl hg) hd
    · rename_i d want hg
      split at hd
      · rename_i b hb
        cases hbw : (b == want) with
        | true => exact go (.inr ⟨d, want, b, hg, hb, hbw⟩) (hd.1 hbw)
        | false => exact skip ⟨d, want, hg, .inl ⟨b, hb, hbw⟩⟩ (hd.2 hbw)
      · rename_i vs hvs
        exact skip ⟨d, want, hg, .inr ⟨vs, hvs⟩⟩ hd
      · exact hd.elim
end Go.AM

namespace Go.AM
section
variable {P : Program} {w : World} {G : Snap} {L : Lk} {I : Inj}

theorem newsU_at : ∀ (ks : List (Option Blk)) (n : Nat) (H : Heap) (p : Nat), (H.upd (newsU n ks)).at p = if n ≤ p ∧ p < n + ks.length then (ks[p - n]?).join else H.at p
  | [], n, H, p => by simp [newsU, Heap.upd]; intro h1 h2; omega
  | k :: ks, n, H, p => by
    simp only [newsU, Heap.upd]
    rw [newsU_at ks (n + 1) _ p, Heap.at_set]
    by_cases h1 : p = n
    · subst h1
      rw [if_neg (by omega), if_pos rfl, if_pos (by simp)]
      simp
    · rw [if_neg h1]
      by_cases h2 : n + 1 ≤ p ∧ p < n + 1 + ks.length
      · rw [if_pos h2, if_pos (by simp; omega)]
        have : p - n = (p - (n + 1)) + 1 := by omega
        rw [this]; simp
      · rw [if_neg h2, if_neg (by simp; omega)]

theorem upd_at_mem : ∀ (u : Upd) (h h' : Heap) (p : Nat), p ∈ u.map (·.1) → (h.upd u).at p = (h'.upd u).at p
  | [], h, h', p, hp => by simp at hp
  | (i, k) :: u, h, h', p, hp => by
    simp only [Heap.upd]
    by_cases hm : p ∈ u.map (·.1)
    · exact upd_at_mem u _ _ p hm
    · have : ∀ (u : Upd) (h : Heap), p ∉ u.map (·.1) → (h.upd u).at p = h.at p := by
        intro u
        induction u with
        | nil => intro h _; rfl
        | cons x u ih =>
          intro h hn
          obtain ⟨i, k⟩ := x
          simp only [List.map_cons, List.mem_cons, not_or] at hn
          simp only [Heap.upd]
          rw [ih _ hn.2, Heap.at_set, if_neg hn.1]
      rw [this u _ hm, this u _ hm]
      simp only [List.map_cons, List.mem_cons] at hp
      rcases hp with rfl | hp
      · rw [Heap.at_set, Heap.at_set]; simp
      · exact absurd hp hm

theorem upd_at_not : ∀ (u : Upd) (h : Heap) (p : Nat), p ∉ u.map (·.1) → (h.upd u).at p = h.at p
  | [], h, p, _ => rfl
  | (i, k) :: u, h, p, hn => by
    simp only [List.map_cons, List.mem_cons, not_or] at hn
    simp only [Heap.upd]
    rw [upd_at_not u _ p hn.2, Heap.at_set, if_neg hn.1]

theorem BR_bnd {n : Nat} {I' : Inj} (ha : ∀ i, i < n → I' i = I i) {k : Blk} {o : Obj} {b e : Nat} (hb : blkBnd n (some k) = true) (h : BR G I k o b e) : BR G I' k o b e := by
  have all_ : ∀ {l : List AV}, bndL n l = true → ∀ a ∈ l, a.bnd n = true := by
    intro l
    induction l with
    | nil => intro _ a ha; simp at ha
    | cons x l ih =>
      intro hl a ha
      simp only [bndL, Bool.and_eq_true] at hl
      rcases List.mem_cons.1 ha with rfl | ha
      · exact hl.1
      · exact ih hl.2 a ha
  cases k with
  | cells cs =>
    obtain ⟨c, el, h1, h2, h3, h4⟩ := h
    refine ⟨c, el, h1, h2, h3, fun j a hj => ⟨(h4 j a hj).1, ?_⟩⟩
    obtain ⟨v, hv, hr⟩ := (h4 j a hj).2
    exact ⟨v, hv, VR_bnd ha a v (all_ hb a (List.mem_of_getElem? hj)) hr⟩
  | map es =>
    simp only [blkBnd, Bool.and_eq_true] at hb
    obtain ⟨mes, cl, h1, h2, h3⟩ := h
    exact ⟨mes, cl, h1, VRs_bnd ha _ _ hb.1 h2, VRs_bnd ha _ _ hb.2 h3⟩

theorem at_lt {h : Heap} {p : Nat} {k : Blk} (hp : h.at p = some k) : p < h.length := by
  unfold Heap.at at hp
  rcases Nat.lt_or_ge p h.length with q | q
  · exact q
  · simp [List.getElem?_eq_none q] at hp

theorem heapBnd_at {n : Nat} {h : Heap} (hb : heapBnd n h = true) {p : Nat} {k : Blk} (hp : h.at p = some k) : blkBnd n (some k) = true := by
  have hlt := at_lt hp
  have : h[p]? = some (some k) := by
    unfold Heap.at at hp
    simp [List.getElem?_eq_getElem hlt] at hp
    simp [List.getElem?_eq_getElem hlt, hp]
  exact (List.all_eq_true.1 hb) _ (List.mem_of_getElem? this)

open Classical in
/-- A call over a part of the blocks. -/
theorem call_frame {k : Nat} {args : List AV} {hm : Heap} {v : AV} {uo : Upd} {news : List (Option Blk)} (hc : CallsA P k args hm (fun out h' => out = .ret v ∧ h' = hm.upd (uo ++ newsU hm.length news))) (huo : ∀ p ∈ uo.map (·.1), p < hm.length)
    {H : Heap} (hs : St G L I H w) (hsub : hm.sub H) (hfr : ∀ i, hm.length ≤ i → i < hm.length + news.length → I i = none) {cargs : List Value} (hargs : VRs G I args cargs)
    (hb : bndL hm.length args = true) (hbh : heapBnd hm.length hm = true) :
    Calls P k cargs.toArray w fun e w' => ∃ G' I', G.le G' ∧ I.le I' ∧ (∀ i, ¬ (hm.length ≤ i ∧ i < hm.length + news.length) → I' i = I i) ∧ St G' L I' (H.upd (uo ++ newsU hm.length news)) w' ∧
      ∃ c, e = .returned c ∧ VR G' I' v c := by
  let Ic : Inj := fun i => if i < hm.length then I i else none
  let lock : Nat → Prop := fun b => ∃ p kk x, H.at p = some kk ∧ hm.at p = none ∧ I p = some (b, x)
  let Lc : Lk := ⟨fun b => match L b with
    | some o => some o
    | none => if lock b then w.heap[b]? else none, L.o⟩
  have hIc : ∀ i, i < hm.length → Ic i = I i := fun i hi => by simp only [Ic]; rw [if_pos hi]
  have hLcL : ∀ b, Lc b = none → L b = none := by
    intro b hb
    simp only [Lc] at hb
    cases hl : L b with
    | none => rfl
    | some o => rw [hl] at hb; cases hb
  have hLck : ∀ b, Lc b = none → w.heap[b]? ≠ none → ¬ lock b := by
    intro b hb hw hlk
    have hl := hLcL b hb
    simp only [Lc, hl] at hb
    rw [if_pos hlk] at hb
    exact hw hb
  have hsc : St G Lc Ic hm w := by
    constructor
    · exact hs.g
    · intro b o hb
      simp only [Lc] at hb
      cases hl : L b with
      | some o' => rw [hl] at hb; injection hb with hb; subst hb; exact hs.l b _ hl
      | none =>
        rw [hl] at hb
        simp only at hb
        split at hb
        · exact hb
        · cases hb
    · intro b
      rcases hs.dis b with hg | hl
      · exact .inl hg
      · by_cases hlk : lock b
        · obtain ⟨p, kk, x, h1, h2, h3⟩ := hlk
          left
          obtain ⟨base, ext⟩ := x
          exact (hs.ownOf h3 h1).choose_spec.1
        · right
          simp only [Lc, hl]
          rw [if_neg hlk]
    · intro id kk hk
      have hlt := at_lt hk
      rcases hs.own id kk (hsub _ _ hk) with ⟨e1, e2⟩ | ⟨b, base, ext, o, g1, g2, g3, g4, g5⟩
      · exact .inl ⟨e1, by rw [hIc id hlt]; exact e2⟩
      · refine .inr ⟨b, base, ext, o, by rw [hIc id hlt]; exact g1, g2, ?_, g4, BR_bnd hIc (heapBnd_at hbh hk) g5⟩
        simp only [Lc, g3]
        rw [if_neg]
        rintro ⟨p, kk', x, h1, h2, h3⟩
        have := hs.inj id p kk kk' b _ x (hsub _ _ hk) h1 g1 h3
        subst this
        rw [hk] at h2; cases h2
    · intro i j ki kj b x x' hi hj hxi hxj
      rw [hIc i (at_lt hi)] at hxi
      rw [hIc j (at_lt hj)] at hxj
      exact hs.inj i j ki kj b x x' (hsub _ _ hi) (hsub _ _ hj) hxi hxj
    · exact hs.out
  have hfc : Fresh Ic hm := by
    intro i hi
    simp only [Ic]; rw [if_neg (by omega)]
  refine (hc.2 G Lc Ic w cargs hsc hfc (VRs_bnd hIc args cargs hb hargs)).mono ?_
  rintro e w' ⟨G', I1, out, h', ⟨rfl, rfl⟩, g1, g2, g3, g4, g5, g6⟩
  let I2 : Inj := fun i => if hm.length ≤ i ∧ i < hm.length + news.length then I1 i else I i
  have hI1 : ∀ i, i < hm.length → I1 i = I i := fun i hi => by rw [g2 i hi, hIc i hi]
  have hI12 : I1.le I2 := by
    intro i x hx
    have hlt : i < hm.length + news.length := by
      rcases Nat.lt_or_ge i (hm.length + news.length) with q | q
      · exact q
      · rw [g4 i (by rw [upd_uo_length huo]; exact q)] at hx; cases hx
    simp only [I2]
    by_cases hi : hm.length ≤ i
    · rw [if_pos ⟨hi, hlt⟩]; exact hx
    · rw [if_neg (by omega), ← hI1 i (by omega)]; exact hx
  have hI2 : I.le I2 := by
    intro i x hx
    simp only [I2]
    split
    · rename_i hr
      rw [hfr i hr.1 hr.2] at hx; cases hx
    · exact hx
  have hrange : ∀ p, hm.length ≤ p → p < hm.length + news.length → p ∈ (uo ++ newsU hm.length news).map (·.1) := by
    intro p p1 p2
    rw [List.map_append, newsU_fst, List.mem_append]
    right
    simp only [List.mem_range']
    exact ⟨p - hm.length, by omega, by omega⟩
  have hdom : ∀ p, p ∈ (uo ++ newsU hm.length news).map (·.1) → p < hm.length ∨ (hm.length ≤ p ∧ p < hm.length + news.length) := by
    intro p hp
    rw [List.map_append, newsU_fst, List.mem_append] at hp
    rcases hp with hp | hp
    · exact .inl (huo p hp)
    · simp only [List.mem_range'] at hp
      obtain ⟨j, h1, rfl⟩ := hp
      right; omega
  refine ⟨G', I2, g1, hI2, fun i hi => by simp only [I2]; rw [if_neg hi], ?_, ?_⟩
  · -- which ids are the callee's
    have side : ∀ id kk, (H.upd (uo ++ newsU hm.length news)).at id = some kk → ((hm.upd (uo ++ newsU hm.length news)).at id = some kk ∧ I2 id = I1 id) ∨ (H.at id = some kk ∧ hm.at id = none ∧ I2 id = I id) := by
      intro id kk hk
      by_cases hr : id ∈ (uo ++ newsU hm.length news).map (·.1)
      · left
        rw [upd_at_mem _ H hm id hr] at hk
        refine ⟨hk, ?_⟩
        rcases hdom id hr with hd | hd
        · simp only [I2]; rw [if_neg (by omega), hI1 id hd]
        · simp only [I2]; rw [if_pos hd]
      · have hnr : ¬ (hm.length ≤ id ∧ id < hm.length + news.length) := fun hx => hr (hrange id hx.1 hx.2)
        rw [upd_at_not _ H id hr] at hk
        cases hh : hm.at id with
        | none => right; exact ⟨hk, rfl, by simp only [I2]; rw [if_neg hnr]⟩
        | some k2 =>
          left
          have := hsub _ _ hh
          rw [hk] at this; injection this with this; subst this
          exact ⟨by rw [upd_at_not _ hm id hr]; exact hh, by simp only [I2]; rw [if_neg hnr, hI1 id (at_lt hh)]⟩
    have locked : ∀ id kk b x, H.at id = some kk → hm.at id = none → I id = some (b, x) → ∃ o, Lc b = some o ∧ w.heap[b]? = some o ∧ G' b = none := by
      intro id kk b x h1 h2 h3
      obtain ⟨base, ext⟩ := x
      obtain ⟨o, k1, k2, k3, k4⟩ := hs.ownOf h3 h1
      have hl : Lc b = some o := by
        simp only [Lc, k2]
        rw [if_pos ⟨id, kk, _, h1, h2, h3⟩]; exact k3
      refine ⟨o, hl, k3, ?_⟩
      rcases g5.dis b with q | q
      · exact q
      · rw [hl] at q; cases q
    constructor
    · exact g5.g
    · intro b o hb
      exact g5.l b o (by simp only [Lc, hb])
    · intro b
      rcases g5.dis b with q | q
      · exact .inl q
      · exact .inr (hLcL b q)
    · intro id kk hk
      rcases side id kk hk with ⟨h1, h2⟩ | ⟨h1, h2, h3⟩
      · rcases g5.own id kk h1 with ⟨e1, e2⟩ | ⟨b, base, ext, o, k1, k2, k3, k4, k5⟩
        · exact .inl ⟨e1, by rw [h2]; exact e2⟩
        · exact .inr ⟨b, base, ext, o, by rw [h2]; exact k1, k2, hLcL b k3, k4, BR_mono (Snap.le_refl _) hI12 k5⟩
      · rcases hs.own id kk h1 with ⟨e1, e2⟩ | ⟨b, base, ext, o, k1, k2, k3, k4, k5⟩
        · exact .inl ⟨e1, by rw [h3]; exact e2⟩
        · obtain ⟨o', q1, q2, q3⟩ := locked id kk b _ h1 h2 k1
          rw [k4] at q2; injection q2 with q2; subst q2
          exact .inr ⟨b, base, ext, o, by rw [h3]; exact k1, q3, k3, g5.l b o q1, BR_mono g1 hI2 k5⟩
    · intro i j ki kj b x x' hi hj hxi hxj
      rcases side i ki hi with ⟨a1, a2⟩ | ⟨a1, a2, a3⟩ <;> rcases side j kj hj with ⟨b1, b2⟩ | ⟨b1, b2, b3⟩
      · rw [a2] at hxi; rw [b2] at hxj
        exact g5.inj i j ki kj b x x' a1 b1 hxi hxj
      · rw [a2] at hxi; rw [b3] at hxj
        obtain ⟨base, ext⟩ := x
        obtain ⟨o, _, k2, _⟩ := g5.ownOf hxi a1
        obtain ⟨o', q1, _⟩ := locked j kj b x' b1 b2 hxj
        rw [q1] at k2; cases k2
      · rw [a3] at hxi; rw [b2] at hxj
        obtain ⟨base, ext⟩ := x'
        obtain ⟨o, _, k2, _⟩ := g5.ownOf hxj b1
        obtain ⟨o', q1, _⟩ := locked i ki b x a1 a2 hxi
        rw [q1] at k2; cases k2
      · rw [a3] at hxi; rw [b3] at hxj
        exact hs.inj i j ki kj b x x' a1 b1 hxi hxj
    · exact g5.out
  · cases e with
    | returned c => exact ⟨c, rfl, VR_mono (Snap.le_refl _) hI12 v c g6⟩
    | panicked ch => exact g6.elim
    | outgrown => exact g6.elim
end
end Go.AM

namespace Go.AM

/-! The last of those that meet a test. -/
def lastN : Nat → (Nat → Bool) → Option Nat
  | 0, _ => none
  | m + 1, p => if p m then some m else lastN m p

theorem lastN_congr : ∀ (m : Nat) (p q : Nat → Bool), (∀ j, j < m → p j = q j) → lastN m p = lastN m q
  | 0, _, _, _ => rfl
  | m + 1, p, q, h => by
    simp only [lastN]
    rw [h m (by omega), lastN_congr m p q fun j hj => h j (by omega)]

theorem lastN_is : ∀ (m i : Nat) (p : Nat → Bool), i < m → p i = true → (∀ j, i < j → j < m → p j = false) → lastN m p = some i
  | 0, i, p, hi, _, _ => by omega
  | m + 1, i, p, hi, hp, hj => by
    simp only [lastN]
    by_cases e : i = m
    · subst e; rw [if_pos hp]
    · rw [if_neg (by rw [hj m (by omega) (by omega)]; simp)]
      exact lastN_is m i p (by omega) hp fun j h1 h2 => hj j h1 (by omega)

theorem lastN_some : ∀ (m : Nat) (p : Nat → Bool) (i : Nat), lastN m p = some i → i < m ∧ p i = true
  | 0, p, i, h => by simp [lastN] at h
  | m + 1, p, i, h => by
    simp only [lastN] at h
    split at h
    · rename_i hp; injection h with h; subst h; exact ⟨by omega, hp⟩
    · have := lastN_some m p i h; exact ⟨by omega, this.2⟩

def ordsOK (bef : List Nat) (m : Nat) (names writes : Nat → List Nat) : Bool :=
  (List.range m).all fun i => (List.range i).all fun j => ordB bef i j || (!(writes j).any (fun t => (names i).contains t) && !(writes i).any (fun t => (names j).contains t))

def RO.tmps : RO → List Nat
  | .t n => [n]
  | .c _ => []
def ROper.names (o : ROper) : List Nat := o.dst.toList ++ (match o.guard with | some (d, _) => [d] | none => []) ++ o.op.ros.flatMap RO.tmps

/-- Slots are told in order. -/
def namesOK (bef : List Nat) (rs : List ROper) : Bool :=
  ordsOK bef rs.length (fun i => ((rs[i]?).map ROper.names).getD []) (fun i => ((rs[i]?).bind (·.dst)).toList)

theorem namesOK_spec {bef : List Nat} {rs : List ROper} (h : namesOK bef rs = true) {i j : Nat} {ri rj : ROper} (hi : rs[i]? = some ri) (hj : rs[j]? = some rj) (hlt : j < i) :
    ordB bef i j = true ∨ ((∀ t, rj.dst = some t → t ∉ ri.names) ∧ (∀ t, ri.dst = some t → t ∉ rj.names)) := by
  unfold namesOK ordsOK at h
  have him : i < rs.length := (List.getElem?_eq_some_iff.1 hi).1
  have h1 := (List.all_eq_true.1 h) i (by simpa using him)
  have h2 := (List.all_eq_true.1 h1) j (by simpa using hlt)
  simp only [hi, hj, Option.map_some, Option.getD_some, Option.bind_some, Bool.or_eq_true, Bool.and_eq_true, Bool.not_eq_true'] at h2
  rcases h2 with h2 | ⟨h2, h3⟩
  · exact .inl h2
  · right
    constructor
    · intro t ht hm
      rw [ht] at h2
      simp at h2
      exact h2 hm
    · intro t ht hm
      rw [ht] at h3
      simp at h3
      exact h3 hm

section
variable {P : Program}

structure DrawData (P : Program) (bef : List Nat) (rs : List ROper) (env0 : List AV) (h0 : Heap) extends Trace P bef rs 0 [] env0 h0 where
  names : namesOK bef rs = true

variable {bef : List Nat} {rs : List ROper} {env0 : List AV} {h0 : Heap}

def Trace.tch (T : Trace P bef rs 0 [] env0 h0) (p j : Nat) : Bool := decide (p ∈ (T.U j).map (·.1))
def Trace.wr (rs : List ROper) (t j : Nat) : Bool := ((rs[j]?).bind (·.dst)) == some t

def Trace.heapV (T : Trace P bef rs 0 [] env0 h0) (S : Nat → Bool) (p : Nat) : Option Blk :=
  match lastN rs.length (fun j => S j && T.tch p j) with
  | some j => (Heap.upd [] (T.U j)).at p
  | none => h0.at p

def Trace.envV (T : Trace P bef rs 0 [] env0 h0) (S : Nat → Bool) (t : Nat) : AV :=
  match lastN rs.length (fun j => S j && Trace.wr rs t j) with
  | some j => T.V j
  | none => env0.getD t .undef

theorem Trace.len_le (T : Trace P bef rs 0 [] env0 h0) : ∀ (k j : Nat), j + k ≤ rs.length → (T.H j).length ≤ (T.H (j + k)).length
  | 0, j, _ => Nat.le_refl _
  | k + 1, j, hl => by
    have h1 := T.len_le k j (by omega)
    have hlt : j + k < rs.length := by omega
    have := (T.step (j + k) _ (List.getElem?_eq_getElem hlt)).2
    have e : j + (k + 1) = j + k + 1 := by omega
    rw [e, this]
    exact Nat.le_trans h1 (Heap.length_upd_le _ _)

theorem Trace.len_mono (T : Trace P bef rs 0 [] env0 h0) {i j : Nat} (hij : i ≤ j) (hj : j ≤ rs.length) : (T.H i).length ≤ (T.H j).length := by
  have := T.len_le (j - i) i (by omega)
  rwa [show i + (j - i) = j from by omega] at this

theorem Trace.tch_lt (T : Trace P bef rs 0 [] env0 h0) {p j : Nat} (hj : j < rs.length) (ht : T.tch p j = true) : p < (T.H (j + 1)).length := by
  have := (T.step j _ (List.getElem?_eq_getElem hj)).2
  rw [this]
  exact Heap.length_upd_mem _ _ _ (by simpa [Trace.tch] using ht)

theorem Trace.heap_at (T : Trace P bef rs 0 [] env0 h0) : ∀ (i : Nat), i ≤ rs.length → ∀ p, (T.H i).at p = T.heapV (fun j => decide (j < i)) p
  | 0, _, p => by
    have : lastN rs.length (fun j => decide (j < 0) && T.tch p j) = none := by
      cases h : lastN rs.length (fun j => decide (j < 0) && T.tch p j) with
      | none => rfl
      | some k => have := lastN_some _ _ _ h; simp at this
    simp only [Trace.heapV, this]
    rw [T.hh0]
  | i + 1, hi, p => by
    have hlt : i < rs.length := by omega
    have hst := (T.step i _ (List.getElem?_eq_getElem hlt)).2
    rw [hst]
    by_cases ht : T.tch p i = true
    · have : lastN rs.length (fun j => decide (j < i + 1) && T.tch p j) = some i :=
        lastN_is _ _ _ hlt (by simp [ht]) fun j h1 h2 => by
          have : ¬ j < i + 1 := by omega
          simp [this]
      simp only [Trace.heapV, this]
      exact upd_at_mem _ _ _ _ (by simpa [Trace.tch] using ht)
    · have hnt : p ∉ (T.U i).map (·.1) := by simpa [Trace.tch] using ht
      rw [upd_at_not _ _ _ hnt, T.heap_at i (by omega) p]
      unfold Trace.heapV
      rw [lastN_congr rs.length (fun j => decide (j < i) && T.tch p j) (fun j => decide (j < i + 1) && T.tch p j)]
      intro j hj
      by_cases hji : j = i
      · subst hji; simp at ht; simp [ht]
      · have : (j < i) ↔ (j < i + 1) := by omega
        simp [this]

theorem setD_getD (env : List AV) (d : Option Nat) (v : AV) (t : Nat) (ht : t < env.length) : (setD env d v).getD t .undef = if d = some t then v else env.getD t .undef := by
  cases d with
  | none => simp [setD]
  | some d =>
    simp only [setD, Option.some.injEq]
    by_cases h : d = t
    · subst h; simp [List.getD, ht]
    · simp [List.getD, List.getElem?_set, h]

theorem setD_length (env : List AV) (d : Option Nat) (v : AV) : (setD env d v).length = env.length := by cases d <;> simp [setD]

theorem Trace.env_len (T : Trace P bef rs 0 [] env0 h0) : ∀ i, i ≤ rs.length → (T.E i).length = env0.length
  | 0, _ => by rw [T.e0]
  | i + 1, hi => by
    have hlt : i < rs.length := by omega
    rw [(T.step i _ (List.getElem?_eq_getElem hlt)).1, setD_length, T.env_len i (by omega)]

theorem Trace.env_at (T : Trace P bef rs 0 [] env0 h0) : ∀ (i : Nat), i ≤ rs.length → ∀ t, t < env0.length → (T.E i).getD t .undef = T.envV (fun j => decide (j < i)) t
  | 0, _, t, ht => by
    have : lastN rs.length (fun j => decide (j < 0) && Trace.wr rs t j) = none := by
      cases h : lastN rs.length (fun j => decide (j < 0) && Trace.wr rs t j) with
      | none => rfl
      | some k => have := lastN_some _ _ _ h; simp at this
    simp only [Trace.envV, this]
    rw [T.e0]
  | i + 1, hi, t, ht => by
    have hlt : i < rs.length := by omega
    have hst := (T.step i _ (List.getElem?_eq_getElem hlt)).1
    rw [hst, setD_getD _ _ _ _ (by rw [T.env_len i (by omega)]; exact ht)]
    by_cases hw : Trace.wr rs t i = true
    · have hd : (rs[i]).dst = some t := by simpa [Trace.wr, List.getElem?_eq_getElem hlt] using hw
      rw [if_pos hd]
      have : lastN rs.length (fun j => decide (j < i + 1) && Trace.wr rs t j) = some i :=
        lastN_is _ _ _ hlt (by simp [hw]) fun j h1 h2 => by
          have : ¬ j < i + 1 := by omega
          simp [this]
      simp only [Trace.envV, this]
    · have hd : (rs[i]).dst ≠ some t := by simpa [Trace.wr, List.getElem?_eq_getElem hlt] using hw
      rw [if_neg hd, T.env_at i (by omega) t ht]
      unfold Trace.envV
      rw [lastN_congr rs.length (fun j => decide (j < i) && Trace.wr rs t j) (fun j => decide (j < i + 1) && Trace.wr rs t j)]
      intro j hj
      by_cases hji : j = i
      · subst hji; simp at hw; simp [hw]
      · have : (j < i) ↔ (j < i + 1) := by omega
        simp [this]
end
end Go.AM

namespace Go.AM

/-- What an operation waits for, closed. -/
def befOf (pre : List Nat) (o : Oper) : Nat := o.after.toList.foldl (fun s e => if Region.binds .any e then s ||| 2 ^ e.on ||| pre.getD e.on 0 else s) 0
def befL : List Oper → List Nat → List Nat
  | [], pre => pre
  | o :: os, pre => befL os (pre ++ [befOf pre o])
def backOK : List Oper → Nat → Bool
  | [], _ => true
  | o :: os, i => o.after.toList.all (fun e => !Region.binds .any e || decide (e.on < i)) && backOK os (i + 1)

theorem befOf_bit (pre : List Nat) (j : Nat) : ∀ (es : List Edge) (s : Nat), (es.foldl (fun s e => if Region.binds .any e then s ||| 2 ^ e.on ||| pre.getD e.on 0 else s) s).testBit j = true →
    s.testBit j = true ∨ ∃ e ∈ es, Region.binds .any e = true ∧ (j = e.on ∨ (pre.getD e.on 0).testBit j = true)
  | [], s, h => .inl h
  | e :: es, s, h => by
    simp only [List.foldl_cons] at h
    rcases befOf_bit pre j es _ h with h1 | ⟨e', he', h1⟩
    · split at h1
      · rename_i hb
        simp only [Nat.testBit_or, Bool.or_eq_true] at h1
        rcases h1 with (h1 | h1) | h1
        · exact .inl h1
        · right
          refine ⟨e, by simp, hb, .inl ?_⟩
          rw [Nat.testBit_two_pow] at h1
          exact (of_decide_eq_true h1).symm
        · exact .inr ⟨e, by simp, hb, .inr h1⟩
      · exact .inl h1
    · exact .inr ⟨e', by simp [he'], h1⟩

def Closed (ops : List Oper) (S : Nat → Bool) : Prop := ∀ i o, ops[i]? = some o → S i = true → ∀ e ∈ o.after.toList, Region.binds .any e = true → S e.on = true

theorem befL_closed {S : Nat → Bool} : ∀ (os : List Oper) (pre : List Nat), (∀ i o, os[i]? = some o → S (pre.length + i) = true → ∀ e ∈ o.after.toList, Region.binds .any e = true → S e.on = true) →
    (∀ i j, S i = true → (pre.getD i 0).testBit j = true → S j = true) → ∀ i j, S i = true → ((befL os pre).getD i 0).testBit j = true → S j = true
  | [], pre, _, hp => hp
  | o :: os, pre, hc, hp => by
    simp only [befL]
    refine befL_closed os _ (fun i o' hi hS => ?_) (fun i j hS hb => ?_)
    · refine hc (i + 1) o' (by simpa using hi) ?_
      simp only [List.length_append, List.length_cons, List.length_nil] at hS
      rw [← hS]; congr 1; omega
    · rcases Nat.lt_trichotomy i pre.length with hl | hl | hl
      · refine hp i j hS ?_
        rw [← hb]; simp [List.getD, List.getElem?_append_left hl]
      · subst hl
        have e1 : (pre ++ [befOf pre o]).getD pre.length 0 = befOf pre o := by simp [List.getD]
        rw [e1] at hb
        rcases befOf_bit pre j _ _ hb with h1 | ⟨e, he, h1, h2⟩
        · simp at h1
        · have hSe := hc 0 o rfl (by simpa using hS) e he h1
          rcases h2 with rfl | h2
          · exact hSe
          · exact hp e.on j hSe h2
      · have : (pre ++ [befOf pre o]).getD i 0 = 0 := by
          simp only [List.getD]
          rw [List.getElem?_eq_none (by simp; omega)]; rfl
        rw [this] at hb; simp at hb

theorem ord_closed {ops : List Oper} {S : Nat → Bool} (hc : Closed ops S) {i j : Nat} (hS : S i = true) (hb : ordB (befL ops []) i j = true) : S j = true :=
  befL_closed ops [] (fun i o hi hS => hc i o hi (by simpa using hS)) (fun i j _ hb => by simp at hb) i j hS hb

section
variable {P : Program} {ops : List Oper} {rs : List ROper} {env0 : List AV} {h0 : Heap}

def Trace.LE (T : Trace P (befL ops []) rs 0 [] env0 h0) (j : Nat) : LogE := ⟨((rs[j]?).map fun r => r.op.foot (T.E j)).getD none, (T.H j).length, (T.H (j + 1)).length, (T.U j).map (·.1)⟩
def Trace.log (T : Trace P (befL ops []) rs 0 [] env0 h0) (i : Nat) : List LogE := (List.range i).map T.LE

theorem Trace.log_get (T : Trace P (befL ops []) rs 0 [] env0 h0) (i j : Nat) (l : LogE) : (T.log i)[j]? = some l ↔ j < i ∧ l = T.LE j := by
  unfold Trace.log
  rw [List.getElem?_map]
  rcases Nat.lt_or_ge j i with hl | hl
  · rw [List.getElem?_range hl]
    simp [hl, eq_comm]
  · rw [List.getElem?_eq_none (by simpa using hl)]
    simp; omega

theorem Trace.factL (T : Trace P (befL ops []) rs 0 [] env0 h0) {i : Nat} {r : ROper} (hr : rs[i]? = some r) : Fact P (befL ops []) r i (T.log i) (T.E i) (T.H i) (T.V i) (T.U i) := by
  have := T.fact i r hr
  rw [Nat.zero_add, List.nil_append] at this
  exact this

theorem Trace.touch_heapy (T : Trace P (befL ops []) rs 0 [] env0 h0) {i p : Nat} {r : ROper} (hr : rs[i]? = some r) (ht : T.tch p i = true) : ((T.H i).length ≤ p ∨ wchkB (befL ops []) i (T.log i) p = true) := by
  have hm : p ∈ (T.U i).map (·.1) := by simpa [Trace.tch] using ht
  rcases T.factL hr with ⟨_, _, hu⟩ | ⟨_, hnp, ⟨hnc, hrun, hw⟩ | ⟨f, as, k, caps, uo, news, hop, _, _, huo, _, hu⟩⟩
  · rw [hu] at hm; simp at hm
  · exact hw p hm
  · rw [hu, List.map_append, newsU_fst, List.mem_append] at hm
    rcases hm with hm | hm
    · right
      have := (List.all_eq_true.1 huo) p hm
      simp only [Bool.and_eq_true] at this
      exact this.2
    · left
      simp [List.mem_range'] at hm
      omega

variable {S : Nat → Bool}

/-- Nothing that was carried out already, though it stands later in the text, touches what an operation reads or writes. -/
theorem Trace.later (T : Trace P (befL ops []) rs 0 [] env0 h0) (hc : Closed ops S) {i : Nat} (hi : i < rs.length) (hSi : S i = false) {p : Nat}
    (hv : T.tch p i = true ∨ ∃ k, (vw (befL ops []) i (T.log i) ((rs[i]).op.foot (T.E i)) (T.H i)).at p = some k) {j : Nat} (hij : i < j) (hj : j < rs.length) (hSj : S j = true) : T.tch p j = false := by
  cases ht : T.tch p j with
  | false => rfl
  | true =>
    exfalso
    have hri := List.getElem?_eq_getElem hi
    have hrj := List.getElem?_eq_getElem hj
    have hord : ordB (befL ops []) j i = false := by
      cases hb : ordB (befL ops []) j i with
      | false => rfl
      | true => have := ord_closed hc hSj hb; rw [hSi] at this; cases this
    have hsees : (T.LE i).sees p = true := by
      unfold LogE.sees Trace.LE
      simp only [hri, Option.map_some, Option.getD_some, Bool.or_eq_true]
      rcases hv with hv | ⟨k, hk⟩
      · right; simpa [Trace.tch] using hv
      · left
        rcases (vw_at _ _ _ _ _ _ _ hk).2 with hf | ⟨l, hf, hp⟩
        · rw [hf]
        · rw [hf]; simpa using hp
    have hplt : p < (T.H j).length := by
      have hm := T.len_mono (i := i + 1) (j := j) (by omega) (by omega)
      rcases hv with hv | ⟨k, hk⟩
      · exact Nat.lt_of_lt_of_le (T.tch_lt hi hv) hm
      · have h1 := at_lt hk
        rw [vw_length] at h1
        have h2 := T.len_mono (i := i) (j := j) (by omega) (by omega)
        omega
    have hw : wchkB (befL ops []) j (T.log j) p = true := by
      rcases (T.touch_heapy hrj ht) with h1 | h1
      · omega
      · exact h1
    rcases wchk_spec hw with h1 | ⟨k, l, hk, hlo, htc, hok, hall⟩
    · have := h1 i (T.LE i) ((T.log_get j i _).2 ⟨hij, rfl⟩) hsees
      rw [hord] at this; cases this
    · obtain ⟨hkj, rfl⟩ := (T.log_get j k l).1 hk
      have hki : ordB (befL ops []) i k = false := hall i (T.LE i) ((T.log_get j i _).2 ⟨hij, rfl⟩) hord
      have hlo' : (T.H k).length ≤ p := hlo
      have htk : T.tch p k = true := by simpa [Trace.tch, Trace.LE] using htc
      have hkr : k < rs.length := by omega
      have hrk := List.getElem?_eq_getElem hkr
      -- k stands ahead of i
      have ahead : p < (T.H i).length → k < i := by
        intro hp
        rcases Nat.lt_or_ge k i with q | q
        · exact q
        · have := T.len_mono q (by omega); omega
      rcases hv with hv | ⟨kk, hkk⟩
      · rcases Nat.lt_or_ge p (T.H i).length with hp | hp
        · have hk2 := ahead hp
          rcases (T.touch_heapy hri hv) with g1 | g1
          · omega
          · rcases wchk_spec g1 with g2 | ⟨k2, l2, q1, q2, q3, q4, q5⟩
            · have := g2 k (T.LE k) ((T.log_get i k _).2 ⟨hk2, rfl⟩) (by unfold LogE.sees; simp [htc])
              rw [hki] at this; cases this
            · obtain ⟨hk2i, rfl⟩ := (T.log_get i k2 l2).1 q1
              have htk2 : T.tch p k2 = true := by simpa [Trace.tch, Trace.LE] using q3
              have hlo2 : (T.H k2).length ≤ p := q2
              have e : k2 = k := by
                rcases Nat.lt_trichotomy k2 k with q | q | q
                · have := T.len_mono (i := k2 + 1) (j := k) (by omega) (by omega)
                  have := T.tch_lt (by omega : k2 < rs.length) htk2
                  omega
                · exact q
                · have := T.len_mono (i := k + 1) (j := k2) (by omega) (by omega)
                  have := T.tch_lt hkr htk
                  omega
              subst e
              rw [hki] at q4; cases q4
        · have hpi := T.tch_lt hi hv
          rcases Nat.lt_trichotomy k i with q | q | q
          · have := T.len_mono (i := k + 1) (j := i) (by omega) (by omega)
            have := T.tch_lt hkr htk
            omega
          · subst q; rw [hord] at hok; cases hok
          · have := T.len_mono (i := i + 1) (j := k) (by omega) (by omega)
            omega
      · have hkk0 := hkk
        replace hkk := (vw_at _ _ _ _ _ _ _ hkk).1
        have hp := at_lt hkk
        rw [mask_length] at hp
        have hk2 := ahead hp
        have hin : p ∈ masked (befL ops []) i (T.log i) 0 := by
          rw [mem_masked]
          exact ⟨k, T.LE k, (T.log_get i k _).2 ⟨hk2, rfl⟩, by rw [Nat.zero_add]; exact hki, by simpa [Trace.LE, Trace.tch] using htk⟩
        rw [mask_at] at hkk
        simp [hin] at hkk

/-- What an operation may look at is there. -/
theorem Trace.view (T : Trace P (befL ops []) rs 0 [] env0 h0) (hc : Closed ops S) {i : Nat} (hi : i < rs.length) (hSi : S i = false) (hpre : ∀ j, ordB (befL ops []) i j = true → S j = true)
    {H : Heap} (hH : ∀ p, H.at p = T.heapV S p) : (vw (befL ops []) i (T.log i) ((rs[i]).op.foot (T.E i)) (T.H i)).sub H := by
  intro p k hk
  have hk0 := hk
  replace hk := (vw_at _ _ _ _ _ _ _ hk).1
  rw [mask_at] at hk
  split at hk
  · cases hk
  · rename_i hnm
    rw [hH, ← hk, T.heap_at i (by omega)]
    unfold Trace.heapV
    rw [lastN_congr rs.length (fun j => S j && T.tch p j) (fun j => decide (j < i) && T.tch p j)]
    intro j hj
    cases ht : T.tch p j with
    | false => simp
    | true =>
      simp only [Bool.and_true]
      rcases Nat.lt_trichotomy j i with q | q | q
      · have : S j = true := by
          apply hpre
          cases hb : ordB (befL ops []) i j with
          | true => rfl
          | false =>
            exfalso
            apply hnm
            have : p ∈ masked (befL ops []) i (T.log i) 0 := by
              rw [mem_masked]
              exact ⟨j, T.LE j, (T.log_get i j _).2 ⟨q, rfl⟩, by rw [Nat.zero_add]; exact hb, by simpa [Trace.LE, Trace.tch] using ht⟩
            simpa using this
        simp [this, q]
      · subst q; simp [hSi]
      · have h1 : ¬ j < i := by omega
        cases hSj : S j with
        | false => simp [h1]
        | true =>
          have := T.later hc hi hSi (.inr ⟨k, hk0⟩) q hj hSj
          rw [ht] at this; cases this

/-- The blocks behind an operation. -/
theorem Trace.heap_next (T : Trace P (befL ops []) rs 0 [] env0 h0) (hc : Closed ops S) {i : Nat} (hi : i < rs.length) (hSi : S i = false) {H : Heap} (hH : ∀ p, H.at p = T.heapV S p) :
    ∀ p, (H.upd (T.U i)).at p = T.heapV (fun j => S j || j == i) p := by
  intro p
  cases ht : T.tch p i with
  | true =>
    have hl : lastN rs.length (fun j => (S j || j == i) && T.tch p j) = some i :=
      lastN_is _ _ _ hi (by simp [ht]) fun j h1 h2 => by
        cases hSj : S j with
        | false => have : (j == i) = false := by simp; omega
                   simp [this]
        | true => rw [T.later hc hi hSi (.inl ht) h1 h2 hSj]; simp
    simp only [Trace.heapV, hl]
    exact upd_at_mem _ _ _ _ (by simpa [Trace.tch] using ht)
  | false =>
    rw [upd_at_not _ _ _ (by simpa [Trace.tch] using ht), hH]
    unfold Trace.heapV
    rw [lastN_congr rs.length (fun j => S j && T.tch p j) (fun j => (S j || j == i) && T.tch p j)]
    intro j hj
    by_cases e : j = i
    · subst e; simp [ht]
    · have : (j == i) = false := by simpa using e
      simp [this]

/-- A fresh place is free. -/
theorem Trace.free (T : Trace P (befL ops []) rs 0 [] env0 h0) (hc : Closed ops S) {i : Nat} (hi : i < rs.length) (hSi : S i = false) {p : Nat} (ht : T.tch p i = true) (hp : (T.H i).length ≤ p)
    : (∀ j, j < rs.length → S j = true → T.tch p j = false) ∧ T.heapV S p = none := by
  have h1 : ∀ j, j < rs.length → S j = true → T.tch p j = false := by
    intro j hj hSj
    rcases Nat.lt_trichotomy j i with q | q | q
    · cases htj : T.tch p j with
      | false => rfl
      | true =>
        have := T.len_mono (i := j + 1) (j := i) (by omega) (by omega)
        have := T.tch_lt hj htj
        omega
    · subst q; rw [hSi] at hSj; cases hSj
    · exact T.later hc hi hSi (.inl ht) q hj hSj
  refine ⟨h1, ?_⟩
  have hl : lastN rs.length (fun j => S j && T.tch p j) = none := by
    cases hq : lastN rs.length (fun j => S j && T.tch p j) with
    | none => rfl
    | some k =>
      obtain ⟨hk1, hk2⟩ := lastN_some _ _ _ hq
      simp only [Bool.and_eq_true] at hk2
      rw [h1 k hk1 hk2.1] at hk2
      cases hk2.2
  simp only [Trace.heapV, hl]
  have h2 := T.len_mono (i := 0) (j := i) (by omega) (by omega)
  rw [T.hh0] at h2
  unfold Heap.at
  rw [List.getElem?_eq_none (by omega)]; rfl

/-- A slot that an operation names. -/
theorem Trace.slot (T : Trace P (befL ops []) rs 0 [] env0 h0) (hn : namesOK (befL ops []) rs = true) (hc : Closed ops S) {i : Nat} (hi : i < rs.length) (hSi : S i = false) (hpre : ∀ j, ordB (befL ops []) i j = true → S j = true)
    {env : List AV} (hlen : env.length = env0.length) (hE : ∀ t, t < env0.length → env.getD t .undef = T.envV S t) {t : Nat} (ht : t ∈ (rs[i]).names) : env.getD t .undef = (T.E i).getD t .undef := by
  rcases Nat.lt_or_ge t env0.length with hl | hl
  · rw [hE t hl, T.env_at i (by omega) t hl]
    unfold Trace.envV
    rw [lastN_congr rs.length (fun j => S j && Trace.wr rs t j) (fun j => decide (j < i) && Trace.wr rs t j)]
    intro j hj
    cases hw : Trace.wr rs t j with
    | false => simp
    | true =>
      have hd : (rs[j]).dst = some t := by simpa [Trace.wr, List.getElem?_eq_getElem hj] using hw
      simp only [Bool.and_true]
      rcases Nat.lt_trichotomy j i with q | q | q
      · rcases namesOK_spec hn (List.getElem?_eq_getElem hi) (List.getElem?_eq_getElem hj) q with h1 | ⟨h1, _⟩
        · simp [hpre j h1, q]
        · exact absurd ht (h1 t hd)
      · subst q; simp [hSi]
      · have h1 : ¬ j < i := by omega
        rcases namesOK_spec hn (List.getElem?_eq_getElem hj) (List.getElem?_eq_getElem hi) q with h2 | ⟨_, h2⟩
        · cases hSj : S j with
          | false => simp [h1]
          | true => have := ord_closed hc hSj h2; rw [hSi] at this; cases this
        · exact absurd ht (h2 t hd)
  · have e1 : env[t]? = none := List.getElem?_eq_none (by omega)
    have e2 : (T.E i)[t]? = none := List.getElem?_eq_none (by rw [T.env_len i (by omega)]; exact hl)
    simp [List.getD, e1, e2]

theorem Trace.env_next (T : Trace P (befL ops []) rs 0 [] env0 h0) (hn : namesOK (befL ops []) rs = true) (hc : Closed ops S) {i : Nat} (hi : i < rs.length) (hSi : S i = false)
    {env : List AV} (hlen : env.length = env0.length) (hE : ∀ t, t < env0.length → env.getD t .undef = T.envV S t) :
    ∀ t, t < env0.length → (setD env (rs[i]).dst (T.V i)).getD t .undef = T.envV (fun j => S j || j == i) t := by
  intro t ht
  rw [setD_getD _ _ _ _ (by rw [hlen]; exact ht)]
  by_cases hd : (rs[i]).dst = some t
  · rw [if_pos hd]
    have hw : Trace.wr rs t i = true := by simp [Trace.wr, List.getElem?_eq_getElem hi, hd]
    have hl : lastN rs.length (fun j => (S j || j == i) && Trace.wr rs t j) = some i :=
      lastN_is _ _ _ hi (by simp [hw]) fun j h1 h2 => by
        have hji : (j == i) = false := by simp; omega
        cases hwj : Trace.wr rs t j with
        | false => simp
        | true =>
          have hdj : (rs[j]).dst = some t := by simpa [Trace.wr, List.getElem?_eq_getElem h2] using hwj
          have hmem : t ∈ (rs[i]).names := by simp [ROper.names, hd]
          rcases namesOK_spec hn (List.getElem?_eq_getElem h2) (List.getElem?_eq_getElem hi) h1 with g | ⟨_, g⟩
          · cases hSj : S j with
            | false => simp [hji]
            | true => have := ord_closed hc hSj g; rw [hSi] at this; cases this
          · exact absurd hmem (g t hdj)
    simp only [Trace.envV, hl]
  · rw [if_neg hd, hE t ht]
    unfold Trace.envV
    rw [lastN_congr rs.length (fun j => S j && Trace.wr rs t j) (fun j => (S j || j == i) && Trace.wr rs t j)]
    intro j hj
    by_cases e : j = i
    · subst e
      have : Trace.wr rs t j = false := by
        simp only [Trace.wr, List.getElem?_eq_getElem hi, Option.bind_some]
        simpa using hd
      simp [this]
    · have : (j == i) = false := by simpa using e
      simp [this]
end
end Go.AM

namespace Go.AM
section
variable {P : Program}

theorem cOpers_get {ops : Array Oper} : ∀ {os : List Oper} {rs : List ROper}, cOpers P ops os = some rs → os.length = rs.length ∧ ∀ (i : Nat) (o : Oper) (r : ROper), os[i]? = some o → rs[i]? = some r → cOper P ops o = some r
  | [], rs, h => by simp [cOpers] at h; subst h; simp
  | o :: os, rs, h => by
    simp only [cOpers] at h
    split at h <;> (try (simp only [reduceCtorEq] at h; done))
    rename_i r rs' h1 h2
    injection h with h; subst h
    obtain ⟨g1, g2⟩ := cOpers_get h2
    refine ⟨by simp [g1], fun i o' r' hi hr => ?_⟩
    cases i with
    | zero => simp at hi hr; subst hi; subst hr; exact h1
    | succ i => exact g2 i o' r' (by simpa using hi) (by simpa using hr)

theorem backOK_spec : ∀ (os : List Oper) (i0 : Nat), backOK os i0 = true → ∀ (i : Nat) (o : Oper), os[i]? = some o → ∀ e ∈ o.after.toList, Region.binds .any e = true → e.on < i0 + i
  | [], i0, _, i, o, hi => by simp at hi
  | o :: os, i0, h, i, o', hi => by
    simp only [backOK, Bool.and_eq_true] at h
    intro e he hb
    cases i with
    | zero =>
      simp at hi; subst hi
      have := (List.all_eq_true.1 h.1) e he
      simpa [hb] using this
    | succ i =>
      have := backOK_spec os (i0 + 1) h.2 i o' (by simpa using hi) e he hb
      omega

theorem befL_lt : ∀ (os : List Oper) (pre : List Nat), backOK os pre.length = true → (∀ i j, (pre.getD i 0).testBit j = true → j < i) → ∀ i j, ((befL os pre).getD i 0).testBit j = true → j < i
  | [], pre, _, hp => hp
  | o :: os, pre, hb, hp => by
    simp only [backOK, Bool.and_eq_true] at hb
    simp only [befL]
    refine befL_lt os _ (by simpa using hb.2) (fun i j hij => ?_)
    rcases Nat.lt_trichotomy i pre.length with hl | hl | hl
    · refine hp i j ?_
      rw [← hij]; simp [List.getD, List.getElem?_append_left hl]
    · subst hl
      have e1 : (pre ++ [befOf pre o]).getD pre.length 0 = befOf pre o := by simp [List.getD]
      rw [e1] at hij
      rcases befOf_bit pre j _ _ hij with h1 | ⟨e, he, h1, h2⟩
      · simp at h1
      · have hl : e.on < pre.length := by
          have := (List.all_eq_true.1 hb.1) e he
          simpa [h1] using this
        rcases h2 with rfl | h2
        · exact hl
        · have := hp e.on j h2
          omega
    · have : (pre ++ [befOf pre o]).getD i 0 = 0 := by
        simp only [List.getD]
        rw [List.getElem?_eq_none (by simp; omega)]; rfl
      rw [this] at hij; simp at hij

variable {ops : Array Oper} {rs : List ROper} {env0 : List AV} {h0 : Heap} {G0 : Snap} {L : Lk} {I0 : Inj} {dfr : List Deferred}

/-- What holds when the operations of S have been carried out. -/
def Inv (T : Trace P (befL ops.toList []) rs 0 [] env0 h0) (G0 : Snap) (L : Lk) (I0 : Inj) (dfr : List Deferred) (S : Nat → Bool) (a : Act) (w : World) : Prop :=
  ∃ (env : List AV) (H : Heap) (G : Snap) (I : Inj), env.length = env0.length ∧ (∀ t, t < env0.length → env.getD t .undef = T.envV S t) ∧ (∀ p, H.at p = T.heapV S p) ∧
    St G L I H w ∧ G0.le G ∧ EnvR G I env a.tmps ∧ a.defers = dfr ∧ (∀ p, p < h0.length → I p = I0 p) ∧ (∀ p, I p ≠ none → p < h0.length ∨ ∃ j, j < rs.length ∧ S j = true ∧ T.tch p j = true)

theorem Closed.insert {os : List Oper} {S : Nat → Bool} (hc : Closed os S) {i : Nat} (hi : ∀ o, os[i]? = some o → ∀ e ∈ o.after.toList, Region.binds .any e = true → S e.on = true) : Closed os (fun j => S j || j == i) := by
  intro j o hj hS e he hb
  simp only [Bool.or_eq_true, beq_iff_eq] at hS
  rcases hS with hS | rfl
  · simp [hc j o hj hS e he hb]
  · simp [hi o hj e he hb]

theorem guard_go (T : Trace P (befL ops.toList []) rs 0 [] env0 h0) {o : Oper} {r : ROper} (hr : cOper P ops o = some r) {env : List AV} {G : Snap} {I : Inj} {a : Act} (he : EnvR G I env a.tmps)
    (hg : r.guard = none ∨ ∃ d want b, r.guard = some (d, want) ∧ env.getD d .undef = .bool b ∧ (b == want) = true) : Region.wanted o (yielded ops a.tmps) = true := by
  obtain ⟨c1, c2, c3⟩ := cOper_inv hr
  unfold Region.wanted
  cases hgo : o.guard with
  | none => rfl
  | some p =>
    obtain ⟨j, want⟩ := p
    rw [hgo] at c3
    simp only at c3 ⊢
    obtain ⟨d, hdj, c4⟩ := c3
    rcases hg with hg | ⟨d', want', b, hg, hb, hbw⟩
    · rw [c4] at hg; cases hg
    · rw [c4] at hg; injection hg with hg; injection hg with e1 e2; subst e1; subst e2
      rw [(yielded_of hdj he).1 b hb]
      cases b <;> cases want <;> first | rfl | (exact absurd hbw (by decide))

theorem guard_skip {o : Oper} {r : ROper} (hr : cOper P ops o = some r) {env : List AV} {G : Snap} {I : Inj} {a : Act} (he : EnvR G I env a.tmps)
    (hg : skipG r env) : Region.wanted o (yielded ops a.tmps) = false := by
  obtain ⟨c1, c2, c3⟩ := cOper_inv hr
  obtain ⟨d, want, hg, hx⟩ := hg
  unfold Region.wanted
  cases hgo : o.guard with
  | none => rw [hgo] at c3; simp only at c3; rw [c3] at hg; cases hg
  | some p =>
    obtain ⟨j, want'⟩ := p
    rw [hgo] at c3
    simp only at c3 ⊢
    obtain ⟨d', hdj, c4⟩ := c3
    rw [c4] at hg; injection hg with hg; injection hg with e1 e2; subst e1; subst e2
    rcases hx with ⟨b, hb, hbw⟩ | ⟨vs, hvs⟩
    · rw [(yielded_of hdj he).1 b hb]
      cases b <;> cases want' <;> first | rfl | (exact absurd hbw (by decide))
    · rw [(yielded_of hdj he).2 vs hvs]; rfl

theorem callf_inv {o : Op} {f : RO} {as : List RO} (hc : cOp P o = some (.call f as)) : ∃ fo args ts, o = .call ⟨.value fo, args, ts⟩ ∧ cRO fo = some f ∧ cROs args.toList = some as := cOp_call_inv hc

/-- One step. -/
theorem Inv.step (T : Trace P (befL ops.toList []) rs 0 [] env0 h0) (hn : namesOK (befL ops.toList []) rs = true) (hcomp : cOpers P ops ops.toList = some rs) (hback : backOK ops.toList 0 = true)
    {S : Nat → Bool} (hc : Closed ops.toList S) {i : Nat} (hi : i < rs.length) (hSi : S i = false) (hpre : ∀ o, ops.toList[i]? = some o → ∀ e ∈ o.after.toList, Region.binds .any e = true → S e.on = true)
    {a : Act} {w : World} (hinv : Inv T G0 L I0 dfr S a w) {Q : Exit → Act → World → Prop} {K : Act → World → Prop} (hK : ∀ a' w', Inv T G0 L I0 dfr (fun j => S j || j == i) a' w' → K a' w') :
    Go.wpOp P ops Q i K a w := by
  obtain ⟨env, H, G, I, hlen, hE, hH, hs, hG, he, hd, hI0, hI⟩ := hinv
  obtain ⟨hl, hget⟩ := cOpers_get hcomp
  have hil : i < ops.toList.length := by omega
  have ho : ops.toList[i]? = some ops.toList[i] := List.getElem?_eq_getElem hil
  have hr := List.getElem?_eq_getElem hi
  have hco := hget i _ _ ho hr
  obtain ⟨c1, c2, c3⟩ := cOper_inv hco
  have hoA : ops[i]? = some ops.toList[i] := by simpa using ho
  have hcl := hc.insert hpre
  have hpreO : ∀ j, ordB (befL ops.toList []) i j = true → S j = true := by
    intro j hb
    have h1 := ord_closed hcl (i := i) (j := j) (by simp) hb
    simp only [Bool.or_eq_true, beq_iff_eq] at h1
    rcases h1 with h1 | rfl
    · exact h1
    · exfalso
      have := befL_lt ops.toList [] hback (fun i j hb => by simp at hb) j j hb
      omega
  have hslot : ∀ t, t ∈ (rs[i]).names → env.getD t .undef = (T.E i).getD t .undef := fun t ht => T.slot hn hc hi hSi hpreO hlen hE ht
  have hev : ∀ x ∈ (rs[i]).op.ros, RO.ev env x = RO.ev (T.E i) x := by
    intro x hx
    cases x with
    | c v => rfl
    | t k =>
      apply hslot
      simp only [ROper.names, List.mem_append, List.mem_flatMap]
      exact .inr ⟨_, hx, by simp [RO.tmps]⟩
  have hgt : ∀ d want, (rs[i]).guard = some (d, want) → env.getD d .undef = (T.E i).getD d .undef := by
    intro d want hg
    apply hslot
    simp [ROper.names, hg]
  have hE' := T.env_next hn hc hi hSi hlen hE
  have hH' := T.heap_next hc hi hSi hH
  have hlen0 : h0.length ≤ (T.H i).length := by
    have := T.len_mono (i := 0) (j := i) (by omega) (by omega)
    rwa [T.hh0] at this
  have keepI : ∀ p, I p ≠ none → p < h0.length ∨ ∃ j, j < rs.length ∧ (S j || j == i) = true ∧ T.tch p j = true := by
    intro p hp
    rcases hI p hp with h1 | ⟨j, h1, h2, h3⟩
    · exact .inl h1
    · exact .inr ⟨j, h1, by simp [h2], h3⟩
  have freeI : ∀ p, T.tch p i = true → (T.H i).length ≤ p → I p = none ∧ H.at p = none := by
    intro p ht hp
    obtain ⟨f1, f2⟩ := T.free hc hi hSi ht hp
    refine ⟨?_, by rw [hH]; exact f2⟩
    cases hip : I p with
    | none => rfl
    | some x =>
      rcases hI p (by rw [hip]; simp) with h1 | ⟨j, h1, h2, h3⟩
      · omega
      · rw [f1 j h1 h2] at h3; cases h3
  unfold Go.wpOp
  rw [hoA]
  simp only
  rcases T.factL hr with ⟨hskip, hv, hu⟩ | ⟨hgo, hnp, hcase⟩
  · have hsk : skipG (rs[i]) env := by
      obtain ⟨d, want, hg, hx⟩ := hskip
      refine ⟨d, want, hg, ?_⟩
      rw [hgt d want hg]; exact hx
    rw [guard_skip hco he hsk, if_neg (by simp)]
    apply hK
    refine ⟨setD env (rs[i]).dst (T.V i), H, G, I, by rw [setD_length, hlen], hE', ?_, hs, hG, ?_, by rw [put_defers, hd], hI0, keepI⟩
    · intro p; rw [← hH' p, hu]; rfl
    · rw [hv, c2]; exact he.put VR_skip
  · have hgo' : (rs[i]).guard = none ∨ ∃ d want b, (rs[i]).guard = some (d, want) ∧ env.getD d .undef = .bool b ∧ (b == want) = true := by
      rcases hgo with h1 | ⟨d, want, b, h1, h2, h3⟩
      · exact .inl h1
      · exact .inr ⟨d, want, b, h1, by rw [hgt d want h1]; exact h2, h3⟩
    rw [guard_go T hco he hgo', if_pos rfl]
    left
    rcases hcase with ⟨hnc, hrun, hw⟩ | ⟨f, as, k, caps, uo, news, hop, hf, hcalls, huo, hb, hu⟩
    · have hrun2 : (rs[i]).op.run env H (T.H i).length = some (true, T.V i, T.U i) := by
        rw [run_congr (rs[i]).op H _ hev]
        exact run_mono (T.view hc hi hSi hpreO hH) _ hrun
      obtain ⟨res, cv, w', I', k1, k2, k3, k4, k5, k6, k7⟩ := op_sound hs he c1 hrun2 (fun hm => freeI _ (by simpa [Trace.tch] using hm) (Nat.le_refl _))
      have fin : K (a.put (ops.toList[i]).dst cv) w' := by
        apply hK
        refine ⟨setD env (rs[i]).dst (T.V i), H.upd (T.U i), G, I', by rw [setD_length, hlen], hE', hH', k6, hG, ?_, by rw [put_defers, hd], ?_, ?_⟩
        · rw [c2]; exact (he.mono (Snap.le_refl G) k3).put k7
        · intro p hp; rw [k4 p (by omega)]; exact hI0 p hp
        · intro p hp
          by_cases hpn : p = (T.H i).length
          · by_cases hm : (T.H i).length ∈ (T.U i).map (·.1)
            · right; exact ⟨i, hi, by simp, by rw [hpn]; simpa [Trace.tch] using hm⟩
            · rw [k5 hm] at hp; exact keepI p hp
          · rw [k4 p hpn] at hp; exact keepI p hp
      unfold Oper.wp
      rw [k1]
      rcases k2 with rfl | ⟨rfl, rfl⟩
      · exact fin
      · exact fin
    · simp only [Bool.and_eq_true] at hb
      obtain ⟨fo, args, ts, hoop, h1, h2⟩ := callf_inv (hop ▸ c1)
      have hff : f.ev env = .fn k caps := by rw [hev f (by rw [hop]; simp [ROp.ros])]; exact hf
      have hfn := ev_sound he h1
      rw [hff] at hfn
      simp only [VR] at hfn
      obtain ⟨vs, hfv, hvs⟩ := hfn
      have hargs0 := cROs_sound he h2
      have hmapEq : as.map (RO.ev env) = as.map (RO.ev (T.E i)) := map_congr_ev fun x hx => hev x (by rw [hop]; simp [ROp.ros, hx])
      rw [hmapEq] at hargs0
      have hargs := VRs_append hargs0 hvs
      have hrun : (execOp a.eval (ops.toList[i])).run P w = .ok (.enter k (args.toList.map a.eval ++ vs).toArray) w := by
        have hca := hcalls.1 (args.toList.map a.eval ++ vs).toArray w
        unfold execOp
        simp only [hoop, resolve, Sem.run_bind, hfv, Deferred.ofValue, Sem.run_pure, Result.andThen_ok, invoke]
        rw [← hca]
        congr 2
        apply Array.ext'
        simp
      have hml := vw_length (befL ops.toList []) i (T.log i) ((rs[i]).op.foot (T.E i)) (T.H i)
      have htch : ∀ p, (T.H i).length ≤ p → p < (T.H i).length + news.length → T.tch p i = true := by
        intro p p1 p2
        simp only [Trace.tch, hu, List.map_append, newsU_fst, List.mem_append, List.mem_range', decide_eq_true_eq]
        exact .inr ⟨p - (T.H i).length, by omega, by omega⟩
      have hfr := call_frame (uo := uo) (news := news) (by rw [hml]; exact hcalls) (by rw [hml]; exact uo_lt huo) hs (T.view hc hi hSi hpreO hH) (fun p p1 p2 => (freeI p (htch p (by omega) (by omega)) (by omega)).1) hargs (by rw [hml]; exact hb.1) (by rw [hml]; exact hb.2)
      unfold Oper.wp
      rw [hrun, Oper.upon_enter]
      refine hfr.mono ?_
      rintro e w' ⟨G', I', g1, g2, g3, g4, c, rfl, g5⟩
      simp only
      apply hK
      rw [hml] at g3 g4
      rw [← hu] at g4
      refine ⟨setD env (rs[i]).dst (T.V i), H.upd (T.U i), G', I', by rw [setD_length, hlen], hE', hH', g4, Snap.le_trans hG g1, ?_, by rw [put_defers, hd], ?_, ?_⟩
      · rw [c2]; exact (he.mono g1 g2).put g5
      · intro p hp; rw [g3 p (by omega)]; exact hI0 p hp
      · intro p hp
        by_cases hpr : (T.H i).length ≤ p ∧ p < (T.H i).length + news.length
        · exact .inr ⟨i, hi, by simp, htch p hpr.1 hpr.2⟩
        · rw [g3 p hpr] at hp; exact keepI p hp
end
end Go.AM

namespace Go.AM
section
variable {P : Program} {ops : Array Oper} {rs : List ROper} {env0 : List AV} {h0 : Heap} {G0 : Snap} {L : Lk} {I0 : Inj} {dfr : List Deferred}

theorem St.at_congr {G : Snap} {L : Lk} {I : Inj} {h h' : Heap} {w : World} (hs : St G L I h w) (hat : ∀ p, h'.at p = h.at p) : St G L I h' w :=
  ⟨hs.g, hs.l, hs.dis, fun id k hk => hs.own id k (by rw [← hat]; exact hk), fun i j ki kj b x x' hi hj => hs.inj i j ki kj b x x' (by rw [← hat]; exact hi) (by rw [← hat]; exact hj), hs.out⟩

theorem lastN_true (n : Nat) (p q : Nat → Bool) (h : ∀ j, j < n → p j = q j) : lastN n p = lastN n q := lastN_congr n p q h

/-- All operations carried out. -/
theorem Inv.done (T : Trace P (befL ops.toList []) rs 0 [] env0 h0) (hf0 : Fresh I0 h0) {S : Nat → Bool} (hS : ∀ j, j < rs.length → S j = true) {a : Act} {w : World} (hinv : Inv T G0 L I0 dfr S a w)
    {Q : Post} (hQ : Q .normal (T.E rs.length) (T.H rs.length)) : Lift G0 L I0 h0.length dfr Q .normal a w := by
  obtain ⟨env, H, G, I, hlen, hE, hH, hs, hG, he, hd, hI0, hI⟩ := hinv
  have hat : ∀ p, (T.H rs.length).at p = H.at p := by
    intro p
    rw [hH, T.heap_at rs.length (Nat.le_refl _)]
    unfold Trace.heapV
    rw [lastN_congr rs.length (fun j => decide (j < rs.length) && T.tch p j) (fun j => S j && T.tch p j)]
    intro j hj
    simp [hj, hS j hj]
  have henv : env = T.E rs.length := by
    have hl := T.env_len rs.length (Nat.le_refl _)
    apply List.ext_getElem (by rw [hlen, hl])
    intro t h1 h2
    have e1 := hE t (by omega)
    have e2 := T.env_at rs.length (Nat.le_refl _) t (by omega)
    have e3 : T.envV S t = T.envV (fun j => decide (j < rs.length)) t := by
      unfold Trace.envV
      rw [lastN_congr rs.length (fun j => S j && Trace.wr rs t j) (fun j => decide (j < rs.length) && Trace.wr rs t j)]
      intro j hj
      simp [hj, hS j hj]
    rw [e3, ← e2] at e1
    simpa [List.getD, h1, h2] using e1
  have hl0 : h0.length ≤ (T.H rs.length).length := by
    have := T.len_mono (i := 0) (j := rs.length) (by omega) (by omega)
    rwa [T.hh0] at this
  refine ⟨.normal, _, _, G, I, hQ, trivial, hG, hI0, hs.at_congr hat, ?_, hl0, henv ▸ he, hd⟩
  intro p hp
  cases hip : I p with
  | none => rfl
  | some x =>
    rcases hI p (by rw [hip]; simp) with h1 | ⟨j, h1, h2, h3⟩
    · omega
    · have := T.tch_lt h1 h3
      have := T.len_mono (i := j + 1) (j := rs.length) (by omega) (by omega)
      omega

theorem getD_set_self (l : Array Bool) (i : Nat) (d : Bool) (h : i < l.size) : (l.setIfInBounds i true).getD i d = true := by
  simp [Array.getD_eq_getD_getElem?, h]

theorem getD_set_ne (l : Array Bool) (i j : Nat) (d : Bool) (h : j ≠ i) : (l.setIfInBounds i true).getD j d = l.getD j d := by
  simp [Array.getD_eq_getD_getElem?, Array.getElem?_setIfInBounds_ne (Ne.symm h)]

theorem getD_in (l : Array Bool) (j : Nat) (d e : Bool) (h : j < l.size) : l.getD j d = l.getD j e := by
  simp [Array.getD_eq_getD_getElem?, h]

theorem wpAny_draw (T : Trace P (befL ops.toList []) rs 0 [] env0 h0) (hf0 : Fresh I0 h0) (hn : namesOK (befL ops.toList []) rs = true) (hcomp : cOpers P ops ops.toList = some rs) (hback : backOK ops.toList 0 = true)
    {Q : Post} (hQ : Q .normal (T.E rs.length) (T.H rs.length)) {CQ : Exit → Act → World → Prop} (hfin : ∀ a w, Lift G0 L I0 h0.length dfr Q .normal a w → CQ .normal a w) :
    ∀ (fuel : Nat) (l : List Nat) (listed : Array Bool) (a : Act) (w : World), listed.size = ops.size → l.length ≤ fuel → (∀ i, i < ops.size → listed.getD i true = false → i ∈ l) →
      Closed ops.toList (fun j => listed.getD j true) → Inv T G0 L I0 dfr (fun j => listed.getD j true) a w → wpAny P .any ops CQ fuel listed a w := by
  have hrl : ops.toList.length = rs.length := (cOpers_get hcomp).1
  have hsz : ops.size = rs.length := by simpa using hrl
  have last : ∀ (listed : Array Bool) (a : Act) (w : World), listed.size = ops.size → Inv T G0 L I0 dfr (fun j => listed.getD j true) a w → Region.ready .any ops listed = [] → CQ .normal a w := by
    intro listed a w hls hinv hr
    refine hfin a w (Inv.done T hf0 ?_ hinv hQ)
    intro j
    induction j using Nat.strongRecOn with
    | _ j ih =>
      intro hj
      cases hlj : listed.getD j true with
      | true => rfl
      | false =>
        exfalso
        have hm : j ∈ Region.ready .any ops listed := by
          unfold Region.ready
          rw [List.mem_filter]
          refine ⟨by simp; omega, ?_⟩
          have hoj : ops[j]? = some (ops[j]'(by omega)) := Array.getElem?_eq_getElem (by omega)
          rw [hlj, hoj]
          simp only [Bool.not_false, Bool.true_and, Option.map_some, Option.getD_some]
          rw [← Array.all_toList, List.all_eq_true]
          intro e he
          cases hb : Region.binds .any e with
          | false => simp
          | true =>
            have hlt := backOK_spec ops.toList 0 hback j _ (by simpa using hoj) e he hb
            have := ih e.on (by omega) (by omega)
            simp only [Bool.not_true, Bool.false_or]
            rw [getD_in listed e.on false true (by omega)]
            exact this
        rw [hr] at hm
        simp at hm
  intro fuel
  induction fuel with
  | zero =>
    intro l listed a w hls hll hl hc hinv
    have hr : Region.ready .any ops listed = [] := by
      cases hq : Region.ready .any ops listed with
      | nil => rfl
      | cons i is =>
        have hm : i ∈ Region.ready .any ops listed := by rw [hq]; simp
        unfold Region.ready at hm
        rw [List.mem_filter] at hm
        simp only [Bool.and_eq_true, Bool.not_eq_true', List.mem_range] at hm
        have := hl i hm.1 hm.2.1
        have : l = [] := List.length_eq_zero_iff.1 (by omega)
        subst this
        simp at *
    exact ⟨hr, last listed a w hls hinv hr⟩
  | succ fuel ih =>
    intro l listed a w hls hll hl hc hinv
    refine ⟨last listed a w hls hinv, fun i hm => ?_⟩
    unfold Region.ready at hm
    rw [List.mem_filter] at hm
    simp only [Bool.and_eq_true, Bool.not_eq_true', List.mem_range] at hm
    obtain ⟨hi, hSi, hrd⟩ := hm
    have hoi : ops[i]? = some (ops[i]'hi) := Array.getElem?_eq_getElem hi
    rw [hoi] at hrd
    simp only [Option.map_some, Option.getD_some] at hrd
    rw [← Array.all_toList, List.all_eq_true] at hrd
    have hpre : ∀ o, ops.toList[i]? = some o → ∀ e ∈ o.after.toList, Region.binds .any e = true → listed.getD e.on true = true := by
      intro o ho e he hb
      have : o = ops[i]'hi := by
        have h2 : ops[i]? = some o := by rw [← Array.getElem?_toList]; exact ho
        rw [hoi] at h2; injection h2 with h2; exact h2.symm
      subst this
      have h2 := hrd e he
      simp only [hb, Bool.not_true, Bool.false_or] at h2
      have hlt := backOK_spec ops.toList 0 hback i _ (by simpa using hoi) e he hb
      rw [getD_in listed e.on true false (by omega)]
      exact h2
    have hS' : ∀ j, (fun j => (listed.setIfInBounds i true).getD j true) j = (fun j => listed.getD j true || j == i) j := by
      intro j
      by_cases hji : j = i
      · subst hji; simp only [getD_set_self listed j true (by omega)]; simp
      · simp only [getD_set_ne listed i j true hji]
        have : (j == i) = false := by simpa using hji
        simp [this]
    refine Inv.step T hn hcomp hback hc (by omega) hSi hpre hinv fun a' w' hinv' => ?_
    refine ih (l.erase i) _ a' w' (by simpa using hls) ?_ ?_ ?_ ?_
    · rw [List.length_erase_of_mem (hl i hi hSi)]; omega
    · intro j hj hlj
      have hji : j ≠ i := by
        rintro rfl
        rw [getD_set_self listed j true (by omega)] at hlj; cases hlj
      rw [getD_set_ne listed i j true hji] at hlj
      exact (List.mem_erase_of_ne hji).2 (hl j hj hlj)
    · rw [funext hS']
      exact hc.insert hpre
    · rw [funext hS']
      exact hinv'

/-- **A region that draws its order.** -/
theorem region_draw {id : Nat} (hm : P.follows .mixedOrders = true) (hcomp : cOpers P ops ops.toList = some rs) (hback : backOK ops.toList 0 = true) (hn : namesOK (befL ops.toList []) rs = true)
    {Q : Post} (hd : DrawOK P (befL ops.toList []) (Q .normal) rs 0 [] env0 h0) {G : Snap} {I : Inj} {a : Act} {w : World} {n0 : Nat}
    (hG : G0.le G) (hI : ∀ i, i < n0 → I i = I0 i) (hl : n0 ≤ h0.length) (hs : St G L I h0 w) (hf : Fresh I h0) (he : EnvR G I env0 a.tmps) (hde : a.defers = dfr) :
    (Code.region id ops true).wp P (Lift G0 L I0 n0 dfr Q) a w := by
  obtain ⟨T, hQ⟩ := DrawOK.trace rs 0 [] env0 h0 hd
  apply wp_region_any hm
  have hempty : lastN rs.length (fun _ => false) = none := by
    cases h : lastN rs.length (fun _ => false) with
    | none => rfl
    | some k => have := lastN_some _ _ _ h; simp at this
  have hs' : St G L I h0 { w with drawn := w.drawn + 1 } := ⟨hs.g, hs.l, hs.dis, hs.own, hs.inj, hs.out⟩
  have hall : ∀ j, j < ops.size → (Array.replicate ops.size false).getD j true = false := by
    intro j hj
    simp [Array.getD_eq_getD_getElem?, hj]
  have hsz : ops.size = rs.length := by simpa using (cOpers_get hcomp).1
  have := wpAny_draw (G0 := G) (L := L) (I0 := I) (dfr := dfr) T hf hn hcomp hback hQ (CQ := Lift G0 L I0 n0 dfr Q) ?_ ops.size (List.range ops.size) (Array.replicate ops.size false) a { w with drawn := w.drawn + 1 } (by simp) (by simp) (fun i hi _ => by simpa using hi) ?_ ?_
  · exact this
  · rintro a' w' ⟨e', env, h, G', I', k1, k2, k3, k4, k5, k6, k7, k8, k9⟩
    exact ⟨e', env, h, G', I', k1, k2, Snap.le_trans hG k3, fun i hi => by rw [k4 i (by omega), hI i hi], k5, k6, by omega, k8, k9⟩
  · intro i o ho hS
    have hi : i < ops.size := by
      have := (List.getElem?_eq_some_iff.1 ho).1
      simpa using this
    have hS' : (Array.replicate ops.size false).getD i true = true := hS
    rw [hall i hi] at hS'
    cases hS'
  · refine ⟨env0, h0, G, I, rfl, fun t ht => ?_, fun p => ?_, hs', Snap.le_refl G, he, hde, fun _ _ => rfl, fun p hp => ?_⟩
    · unfold Trace.envV
      rw [lastN_congr rs.length _ (fun _ => false) (fun j hj => by simp only [hall j (by omega)]; rfl), hempty]
    · unfold Trace.heapV
      rw [lastN_congr rs.length _ (fun _ => false) (fun j hj => by simp only [hall j (by omega)]; rfl), hempty]
    · left
      rcases Nat.lt_or_ge p h0.length with q | q
      · exact q
      · exact absurd (hf p q) hp
end
end Go.AM

namespace Go.AM

section
variable (P : Program)
/-- Code, with regions that draw checked. -/
def kCode : Code → Option RCode
  | .skip => some .skip
  | .region _ ops draw => match cOpers P ops ops.toList with
    | some rs => if draw then (if backOK ops.toList 0 && namesOK (befL ops.toList []) rs then some (.reg true (befL ops.toList []) rs) else none) else some (.reg false [] rs)
    | none => none
  | .seq a b => match kCode a, kCode b with | some a, some b => some (.seq a b) | _, _ => none
  | .cond c a b => match cRO c, kCode a, kCode b with | some c, some a, some b => some (.cond c a b) | _, _, _ => none
  | .block id b => (kCode b).map (.block id)
  | .loop b => (kCode b).map .loop
  | .exit id => some (.exit id)
  | .ret => some .ret
  | _ => none

def kFunc (f : Func) : Option RFunc :=
  match f.body, cRes P f.results.toList with
  | some b, some r => if f.name == "runtime.NumGoroutine" then none else (kCode P b).map fun c => { ntmps := f.ntmps, res := r, body := c }
  | _, _ => none
end

def thenA (next : List AV → Heap → Prop) (Q : Post) : Post := fun e env h => match e with
  | .normal => next env h
  | e => Q e env h

def blockA (id : Nat) (Q : Post) : Post := fun e env h => match e with
  | .exit id' => if id' = id then Q .normal env h else Q (.exit id') env h
  | e => Q e env h

def afterA (n0 : Nat) (next : List AV → Heap → Prop) (env : List AV) (h : Heap) : Prop := ∃ env' h', Wk n0 env h env' h' ∧ next env' h'

def roundA (n0 : Nat) (I : Nat → List AV → Heap → Prop) (n : Nat) (env : List AV) (h : Heap) : Prop := ∃ m env' h', m < n ∧ Wk n0 env h env' h' ∧ I m env' h'

def wpA (P : Program) (n0 : Nat) : RCode → Post → List AV → Heap → Prop
  | .skip, Q, env, h => Q .normal env h
  | .reg true bef ops, Q, env, h => DrawOK P bef (Q .normal) ops 0 [] env h
  | .reg false _ ops, Q, env, h => wpOps P n0 Q ops env h
  | .seq a b, Q, env, h => wpA P n0 a (thenA (afterA n0 (wpA P n0 b Q)) Q) env h
  | .cond c a b, Q, env, h => match c.ev env with
    | .bool t => (t = true → wpA P n0 a Q env h) ∧ (t = false → wpA P n0 b Q env h)
    | _ => False
  | .block id b, Q, env, h => wpA P n0 b (blockA id Q) env h
  | .loop b, Q, env, h => ∃ I : Nat → List AV → Heap → Prop, (∃ n, afterA n0 (I n) env h) ∧ ∀ n env h, I n env h → wpA P n0 b (thenA (roundA n0 I n) Q) env h
  | .exit id, Q, env, h => Q (.exit id) env h
  | .ret, Q, env, h => Q .ret env h

def resOne (env : List AV) (h : Heap) : RRes → Option AV
  | .t n => some (env.getD n .undef)
  | .cell n ag => match env.getD n .undef with
    | .ptr id off => match h.at id with
      | some (.cells cs) => part ag cs off
      | _ => none
    | .vptr cs off => part ag cs off
    | _ => none

def resAll (env : List AV) (h : Heap) : List RRes → Option (List AV)
  | [] => some []
  | r :: rs => match resOne env h r, resAll env h rs with
    | some v, some vs => some (v :: vs)
    | _, _ => none

def resA (rs : List RRes) (env : List AV) (h : Heap) : Option AV :=
  match resAll env h rs with
  | some [v] => some v
  | some vs => some (.tup vs)
  | none => none

def retA (n0 : Nat) (rs : List RRes) (R : Out → Heap → Prop) : Post := fun e env h => match e with
  | .normal | .ret => ∃ env' h', Wk n0 env h env' h' ∧ match resA rs env' h' with
    | some v => R (.ret v) h'
    | none => False
  | .panic v => R (.pan v) h
  | .exit _ => False

section
variable {P : Program} {G0 : Snap} {L : Lk} {I0 : Inj} {n0 : Nat} {dfr : List Deferred}

theorem Lift.thenA {Q : Post} {next : List AV → Heap → Prop} {y : Code} (hy : ∀ env h G I a w, next env h → G0.le G → (∀ i, i < n0 → I i = I0 i) → n0 ≤ h.length → St G L I h w → Fresh I h → EnvR G I env a.tmps → a.defers = dfr → y.wp P (Lift G0 L I0 n0 dfr Q) a w)
    {e : Exit} {a : Act} {w : World} (hl : Lift G0 L I0 n0 dfr (AM.thenA next Q) e a w) : Exit.then (y.wp P (Lift G0 L I0 n0 dfr Q)) (Lift G0 L I0 n0 dfr Q) e a w := by
  obtain ⟨e', env, h, G, I, k1, k2, k3, k4, k5, k6, k7, k8, k9⟩ := hl
  cases e' with
  | normal => cases e <;> first | exact k2.elim | exact hy env h G I a w k1 k3 k4 k7 k5 k6 k8 k9
  | exit id => cases e <;> first | exact k2.elim | exact ⟨.exit id, env, h, G, I, k1, k2, k3, k4, k5, k6, k7, k8, k9⟩
  | ret => cases e <;> first | exact k2.elim | exact ⟨.ret, env, h, G, I, k1, k2, k3, k4, k5, k6, k7, k8, k9⟩
  | panic v => cases e <;> first | exact k2.elim | exact ⟨.panic v, env, h, G, I, k1, k2, k3, k4, k5, k6, k7, k8, k9⟩

theorem Lift.blockA {Q : Post} {id : Nat} {e : Exit} {a : Act} {w : World} (hl : Lift G0 L I0 n0 dfr (AM.blockA id Q) e a w) : Exit.inBlock id (Lift G0 L I0 n0 dfr Q) e a w := by
  obtain ⟨e', env, h, G, I, k1, k2, k3, k4, k5, k6, k7, k8, k9⟩ := hl
  cases e' with
  | normal => cases e <;> first | exact k2.elim | exact ⟨.normal, env, h, G, I, k1, k2, k3, k4, k5, k6, k7, k8, k9⟩
  | exit id' =>
    cases e <;> first | exact k2.elim | skip
    rename_i id2
    simp only at k2
    subst k2
    simp only [AM.blockA] at k1
    simp only [Exit.inBlock]
    split
    · rename_i hid
      rw [if_pos hid] at k1
      exact ⟨.normal, env, h, G, I, k1, trivial, k3, k4, k5, k6, k7, k8, k9⟩
    · rename_i hid
      rw [if_neg hid] at k1
      exact ⟨.exit id', env, h, G, I, k1, rfl, k3, k4, k5, k6, k7, k8, k9⟩
  | ret => cases e <;> first | exact k2.elim | exact ⟨.ret, env, h, G, I, k1, k2, k3, k4, k5, k6, k7, k8, k9⟩
  | panic v => cases e <;> first | exact k2.elim | exact ⟨.panic v, env, h, G, I, k1, k2, k3, k4, k5, k6, k7, k8, k9⟩

theorem rounds_mono {c : Code} {Q : Exit → Act → World → Prop} : ∀ (n m : Nat) (a : Act) (w : World), n ≤ m → Code.rounds P c Q n a w → Code.rounds P c Q m a w
  | 0, _, _, _, _, h => h.elim
  | n + 1, 0, _, _, hl, _ => by omega
  | n + 1, m + 1, a, w, hl, h => by
    rw [rounds_succ] at h ⊢
    refine wp_mono h fun e a' w' hq => ?_
    cases e with
    | normal => exact rounds_mono n m a' w' (by omega) hq
    | _ => exact hq

theorem Lift.thenR {Q : Post} {next : List AV → Heap → Prop} {K : Act → World → Prop} (hy : ∀ env h G I a w, next env h → G0.le G → (∀ i, i < n0 → I i = I0 i) → n0 ≤ h.length → St G L I h w → Fresh I h → EnvR G I env a.tmps → a.defers = dfr → K a w)
    {e : Exit} {a : Act} {w : World} (hl : Lift G0 L I0 n0 dfr (AM.thenA next Q) e a w) : Exit.then K (Lift G0 L I0 n0 dfr Q) e a w := by
  obtain ⟨e', env, h, G, I, k1, k2, k3, k4, k5, k6, k7, k8, k9⟩ := hl
  cases e' with
  | normal => cases e <;> first | exact k2.elim | exact hy env h G I a w k1 k3 k4 k7 k5 k6 k8 k9
  | exit id => cases e <;> first | exact k2.elim | exact ⟨.exit id, env, h, G, I, k1, k2, k3, k4, k5, k6, k7, k8, k9⟩
  | ret => cases e <;> first | exact k2.elim | exact ⟨.ret, env, h, G, I, k1, k2, k3, k4, k5, k6, k7, k8, k9⟩
  | panic v => cases e <;> first | exact k2.elim | exact ⟨.panic v, env, h, G, I, k1, k2, k3, k4, k5, k6, k7, k8, k9⟩

/-- **The code layer.** -/
theorem wpA_sound (hm : P.follows .mixedOrders = true) : ∀ (c : Code) (rc : RCode) (Q : Post) (env : List AV) (h : Heap) (G : Snap) (I : Inj) (a : Act) (w : World),
    kCode P c = some rc → wpA P n0 rc Q env h → G0.le G → (∀ i, i < n0 → I i = I0 i) → n0 ≤ h.length → St G L I h w → Fresh I h → EnvR G I env a.tmps → a.defers = dfr →
    c.wp P (Lift G0 L I0 n0 dfr Q) a w := by
  intro c
  induction c with
  | skip =>
    intro rc Q env h G I a w hc hw hG hI hl hs hf he hd
    simp only [kCode] at hc; injection hc with hc; subst hc
    exact wp_skip ⟨.normal, env, h, G, I, hw, trivial, hG, hI, hs, hf, hl, he, hd⟩
  | region id ops draw =>
    intro rc Q env h G I a w hc hw hG hI hl hs hf he hd
    simp only [kCode] at hc
    split at hc
    · rename_i rs hrs
      cases draw with
      | true =>
        simp only [if_true] at hc
        split at hc
        · rename_i hb
          injection hc with hc; subst hc
          simp only [Bool.and_eq_true] at hb
          exact region_draw hm hrs hb.1 hb.2 hw hG hI hl hs hf he hd
        · cases hc
      | false =>
        simp only [Bool.false_eq_true, if_false] at hc
        injection hc with hc; subst hc
        exact wp_region (wpListOps ops _ a w (wpOps_sound ops ops.toList rs env h G I a w hrs hw hG hI hl hs hf he hd))
    · cases hc
  | seq x y ihx ihy =>
    intro rc Q env h G I a w hc hw hG hI hl hs hf he hd
    simp only [kCode] at hc
    split at hc
    · rename_i rx ry h1 h2
      injection hc with hc; subst hc
      refine wp_seq (wp_mono (ihx rx _ env h G I a w h1 hw hG hI hl hs hf he hd) fun e a' w' hq => ?_)
      refine Lift.thenA (fun env' h' G' I' a' w' k1 k2 k3 k4 k5 k6 k7 k8 => ?_) hq
      obtain ⟨env1, h1', hwk, k1⟩ := k1
      obtain ⟨G1, I1, m1, m2, m3, m4, m5, m6⟩ := hwk G' L I' w' a'.tmps k5 k6 k4 k7
      exact ihy ry Q env1 h1' G1 I1 a' w' h2 k1 (Snap.le_trans k2 m1) (fun i hi => by rw [m2 i hi, k3 i hi]) m3 m5 m4 m6 k8
    · cases hc
  | cond c x y ihx ihy =>
    intro rc Q env h G I a w hc hw hG hI hl hs hf he hd
    simp only [kCode] at hc
    split at hc
    · rename_i c' rx ry h0 h1 h2
      injection hc with hc; subst hc
      have hev := ev_sound he h0
      simp only [wpA] at hw
      split at hw
      · rename_i t ht
        rw [ht] at hev
        exact wp_cond_split (VR_bool hev) (fun e => ihx rx Q env h G I a w h1 (hw.1 e) hG hI hl hs hf he hd) (fun e => ihy ry Q env h G I a w h2 (hw.2 e) hG hI hl hs hf he hd)
      · exact hw.elim
    · cases hc
  | block id b ih =>
    intro rc Q env h G I a w hc hw hG hI hl hs hf he hd
    simp only [kCode] at hc
    obtain ⟨rb, h1, rfl⟩ := Option.map_some_inv hc
    exact wp_block (wp_mono (ih rb _ env h G I a w h1 hw hG hI hl hs hf he hd) fun e a' w' hq => Lift.blockA hq)
  | loop b ih =>
    intro rc Q env h G I a w hc hw hG hI hl hs hf he hd
    simp only [kCode] at hc
    obtain ⟨rb, h1, rfl⟩ := Option.map_some_inv hc
    obtain ⟨J, ⟨n, env1, h1', hwk, hJ⟩, hround⟩ := hw
    obtain ⟨G1, I1, m1, m2, m3, m4, m5, m6⟩ := hwk G L I w a.tmps hs hf hl he
    have key : ∀ n env h G I a w, J n env h → G0.le G → (∀ i, i < n0 → I i = I0 i) → n0 ≤ h.length → St G L I h w → Fresh I h → EnvR G I env a.tmps → a.defers = dfr →
        Code.rounds P b (Lift G0 L I0 n0 dfr Q) (n + 1) a w := by
      intro n
      induction n using Nat.strongRecOn with
      | _ n ihn =>
        intro env h G I a w hJ hG hI hl hs hf he hd
        rw [rounds_succ]
        refine wp_mono (ih rb _ env h G I a w h1 (hround n env h hJ) hG hI hl hs hf he hd) fun e a' w' hq => ?_
        refine Lift.thenR (fun env' h' G' I' a' w' hr k2 k3 k4 k5 k6 k7 k8 => ?_) hq
        obtain ⟨m, env1, h1', hm, hwk, hJ'⟩ := hr
        obtain ⟨G1, I1, m1, m2, m3, m4, m5, m6⟩ := hwk G' L I' w' a'.tmps k5 k6 k4 k7
        exact rounds_mono (m + 1) n a' w' (by omega) (ihn m hm env1 h1' G1 I1 a' w' hJ' (Snap.le_trans k2 m1) (fun i hi => by rw [m2 i hi, k3 i hi]) m3 m5 m4 m6 k8)
    exact wp_loop_rounds (n + 1) (key n env1 h1' G1 I1 a w hJ (Snap.le_trans hG m1) (fun i hi => by rw [m2 i hi, hI i hi]) m3 m5 m4 m6 hd)
  | exit id =>
    intro rc Q env h G I a w hc hw hG hI hl hs hf he hd
    simp only [kCode] at hc; injection hc with hc; subst hc
    exact wp_exit ⟨.exit id, env, h, G, I, hw, rfl, hG, hI, hs, hf, hl, he, hd⟩
  | ret =>
    intro rc Q env h G I a w hc hw hG hI hl hs hf he hd
    simp only [kCode] at hc; injection hc with hc; subst hc
    exact wp_ret ⟨.ret, env, h, G, I, hw, trivial, hG, hI, hs, hf, hl, he, hd⟩
  | _ => intro rc Q env h G I a w hc; simp only [kCode, reduceCtorEq] at hc

def resM (tmps : Array Value) (r : ResultVar) : Sem Value := match r with
  | .tmp t => pure (tmps.getD t undef)
  | .cell a t => do loadVar t (← asAddr (tmps.getD a undef))

theorem resOne_sound {h : Heap} {G : Snap} {I : Inj} {w : World} (hs : St G L I h w) {env : List AV} {tmps : Array Value} (he : EnvR G I env tmps) {r : ResultVar} {rr : RRes} {rs : List ResultVar} {rrs : List RRes}
    (hc : cRes P (r :: rs) = some (rr :: rrs)) {v : AV} (hv : resOne env h rr = some v) :
    ∃ c, (resM tmps r).run P w = .ok c w ∧ VR G I v c := by
  have getd : ∀ n, ∃ c, tmps.getD n undef = c ∧ (env.getD n .undef = .undef ∨ VR G I (env.getD n .undef) c) := by
    intro n
    refine ⟨_, rfl, ?_⟩
    rcases Nat.lt_or_ge n env.length with hl | hl
    · obtain ⟨c, h1, h2⟩ := VRs_get he (List.getElem?_eq_getElem hl)
      right
      have e1 : env.getD n .undef = env[n] := by simp [List.getD, hl]
      have e2 : tmps.getD n undef = c := by
        rw [Array.getElem?_toList] at h1
        simp [Array.getD_eq_getD_getElem?, h1]
      rw [e1, e2]; exact h2
    · left
      simp [List.getD, List.getElem?_eq_none hl]
  cases r with
  | tmp t =>
    simp only [cRes] at hc
    obtain ⟨r', h1, h2⟩ := Option.map_some_inv hc
    injection h2 with h2 h3; subst h2
    simp only [resOne] at hv; injection hv with hv
    refine ⟨_, rfl, ?_⟩
    obtain ⟨c, e1, e2⟩ := getd t
    rw [e1, ← hv]
    rcases e2 with e2 | e2
    · rw [e2]; simp [VR]
    · exact e2
  | cell a t =>
    simp only [cRes] at hc
    split at hc <;> (try (simp only [reduceCtorEq] at hc; done))
    rename_i ag rs' h1 h2
    injection hc with hc; injection hc with hc hc2; subst hc
    obtain ⟨c, e1, e2⟩ := getd a
    simp only [resOne] at hv
    have : ∃ cv, (Instr.loadAt t c).run P w = .ok cv w ∧ VR G I v cv := by
      refine load_sound hs h1 (a := env.getD a .undef) (e2.resolve_left fun hu => ?_) ?_
      · rw [hu] at hv; cases hv
      · cases hx : env.getD a .undef <;> simp only [hx] at hv ⊢ <;> try (cases hv; done)
        · split at hv
          · rename_i cs hcs
            simp only [hcs, hv]
            rfl
          · cases hv
        · simp only [hv]; rfl
    obtain ⟨cv, g1, g2⟩ := this
    refine ⟨cv, ?_, g2⟩
    simp only [resM, e1]
    rw [← g1]
    cases hx : env.getD a .undef <;> simp only [hx] at hv e2 <;> try (cases hv; done)
    all_goals
      rcases e2 with e2 | e2
      · cases e2
      · simp only [VR] at e2
        first
          | (obtain ⟨b, base, ext, q1, rfl⟩ := e2; simp [Instr.loadAt, Instr.sureAddr, asAddr])
          | (obtain ⟨b, o, obj, vs, rfl, q⟩ := e2; simp [Instr.loadAt, Instr.sureAddr, asAddr])

end
end Go.AM

namespace Go.AM
section
variable {P : Program} {L : Lk}

theorem resAll_sound {h : Heap} {G : Snap} {I : Inj} {w : World} (hs : St G L I h w) {env : List AV} {tmps : Array Value} (he : EnvR G I env tmps) : ∀ (rs : List ResultVar) (rrs : List RRes) (vs : List AV),
    cRes P rs = some rrs → resAll env h rrs = some vs →
    ∃ cs : List Value, (rs.mapM (resM tmps)).run P w = .ok cs w ∧ VRs G I vs cs
  | [], rrs, vs, hc, hv => by
    simp only [cRes] at hc; injection hc with hc; subst hc
    simp only [resAll] at hv; injection hv with hv; subst hv
    exact ⟨[], by simp, by simp [VRs]⟩
  | r :: rs, rrs, vs, hc, hv => by
    have hc0 := hc
    have : ∃ rr rrs', rrs = rr :: rrs' ∧ cRes P rs = some rrs' := by
      cases r with
      | tmp t => simp only [cRes] at hc; obtain ⟨r', h1, h2⟩ := Option.map_some_inv hc; exact ⟨_, _, h2.symm, h1⟩
      | cell a t =>
        simp only [cRes] at hc
        split at hc <;> (try (simp only [reduceCtorEq] at hc; done))
        rename_i ag rs' h1 h2
        injection hc with hc
        exact ⟨_, _, hc.symm, h2⟩
    obtain ⟨rr, rrs', rfl, hc'⟩ := this
    simp only [resAll] at hv
    split at hv <;> (try (simp only [reduceCtorEq] at hv; done))
    rename_i v vs' h1 h2
    injection hv with hv; subst hv
    obtain ⟨c, g1, g2⟩ := resOne_sound hs he hc0 h1
    obtain ⟨cs, g3, g4⟩ := resAll_sound hs he rs rrs' vs' hc' h2
    refine ⟨c :: cs, ?_, ?_⟩
    · rw [List.mapM_cons]
      simp only [Sem.run_bind, g1, Result.andThen_ok, g3, Sem.run_pure]
    · simp only [VRs]; exact ⟨c, cs, rfl, g2, g4⟩

theorem resA_sound {h : Heap} {G : Snap} {I : Inj} {w : World} (hs : St G L I h w) {env : List AV} {tmps : Array Value} (he : EnvR G I env tmps) {fn : Func} {rrs : List RRes} {v : AV}
    (hc : cRes P fn.results.toList = some rrs) (hv : resA rrs env h = some v) : ∃ c, (results fn tmps).run P w = .ok c w ∧ VR G I v c := by
  unfold resA at hv
  have key : ∀ vs, resAll env h rrs = some vs → ∃ cs : List Value, (results fn tmps).run P w = .ok (if h : cs.toArray.size = 1 then cs.toArray[0] else .tuple cs.toArray) w ∧ VRs G I vs cs := by
    intro vs hvs
    obtain ⟨cs, h1, h2⟩ := resAll_sound hs he _ _ _ hc hvs
    refine ⟨cs, ?_, h2⟩
    have e : results fn tmps = (do let vs ← fn.results.mapM (resM tmps); pure (if h : vs.size = 1 then vs[0] else .tuple vs)) := by
      unfold results
      congr 1
    rw [e, Array.mapM_eq_mapM_toList]
    simp only [Sem.run_bind, Sem.run_map, h1, Result.andThen_ok, Sem.run_pure]
  split at hv
  · rename_i v' hv'
    injection hv with hv; subst hv
    obtain ⟨cs, h1, h2⟩ := key _ hv'
    simp only [VRs] at h2
    obtain ⟨c, r, rfl, h3, rfl⟩ := h2
    exact ⟨c, by simpa using h1, h3⟩
  · rename_i vs hne hvs
    injection hv with hv; subst hv
    obtain ⟨cs, h1, h2⟩ := key _ hvs
    have hl := VRs_length h2
    refine ⟨.tuple cs.toArray, ?_, ?_⟩
    · rw [h1, dif_neg]
      intro hsz
      have : vs.length = 1 := by simp at hsz; omega
      obtain ⟨v0, rfl⟩ := List.length_eq_one_iff.1 this
      exact hne v0 rfl
    · simp only [VR]; exact ⟨cs, rfl, h2⟩
  · cases hv

theorem VRs_rep {G : Snap} {I : Inj} : ∀ k, VRs G I (List.replicate k (.tup [])) (List.replicate k undef)
  | 0 => by simp [VRs]
  | k + 1 => by simp only [List.replicate_succ, VRs]; exact ⟨_, _, rfl, VR_skip, VRs_rep k⟩

theorem VRs_rep_z {z : AV} (hz : ∀ (G : Snap) (I : Inj), VR G I z undef) {G : Snap} {I : Inj} : ∀ k, VRs G I (List.replicate k z) (List.replicate k undef)
  | 0 => by simp [VRs]
  | k + 1 => by simp only [List.replicate_succ, VRs]; exact ⟨_, _, rfl, hz G I, VRs_rep_z hz k⟩

theorem callsA_of_wpA_z {z : AV} (hz : ∀ (G : Snap) (I : Inj), VR G I z undef) (hm : P.follows .mixedOrders = true) {f : FuncId} {fn : Func} (hf : P.funcs[f]? = some fn) {rf : RFunc} (hc : kFunc P fn = some rf) {args : List AV} {h : Heap} {R : Out → Heap → Prop}
    (hw : wpA P h.length rf.body (retA h.length rf.res R) (args ++ List.replicate (rf.ntmps - args.length) z) h) : CallsA P f args h R := by
  unfold kFunc at hc
  split at hc
  · rename_i b rs hb hr
    split at hc
    · cases hc
    · rename_i hname
      obtain ⟨rc, h1, rfl⟩ := Option.map_some_inv hc
      refine ⟨fun as w => ?_, ?_⟩
      · unfold callFunc
        have hname' : fn.name ≠ "runtime.NumGoroutine" := by simpa using hname
        simp [hf, hb, hname']
      · intro G L I w cargs hs hfr hargs
        refine calls_of_wp hf hb ?_
        have hl := VRs_length hargs
        have henv : EnvR G I (args ++ List.replicate (fn.ntmps - args.length) z) (cargs.toArray ++ Array.replicate (fn.ntmps - cargs.toArray.size) undef) := by
          unfold EnvR
          simp only [Array.toList_append, Array.toList_replicate, List.size_toArray]
          rw [← hl]
          exact VRs_append hargs (VRs_rep_z hz _)
        refine wp_mono (wpA_sound (G0 := G) (I0 := I) (n0 := h.length) (dfr := []) hm b rc (retA h.length rs R) _ h G I _ w h1 hw (Snap.le_refl G) (fun _ _ => rfl) (Nat.le_refl _) hs hfr henv rfl) ?_
        rintro e a w' ⟨e', env, h', G', I', k1, k2, k3, k4, k5, k6, k7, k8, k9⟩
        have ret : (∃ env1 h1, Wk h.length env h' env1 h1 ∧ match resA rs env1 h1 with | some v => R (.ret v) h1 | none => False) → a.defers = [] ∧ ∃ c, (results fn a.tmps).run P w' = .ok c w' ∧
            ∃ G'' I'' out h'', R out h'' ∧ G.le G'' ∧ (∀ i, i < h.length → I'' i = I i) ∧ h.length ≤ h''.length ∧ Fresh I'' h'' ∧ St G'' L I'' h'' w' ∧ OutR G'' I'' out (.returned c) := by
          rintro ⟨env1, h1', hwk, k1⟩
          obtain ⟨G1, I1, m1, m2, m3, m4, m5, m6⟩ := hwk G' L I' w' a.tmps k5 k6 k7 k8
          split at k1
          · rename_i v hv
            obtain ⟨c, q1, q2⟩ := resA_sound m5 m6 hr hv
            exact ⟨k9, c, q1, G1, I1, .ret v, h1', k1, Snap.le_trans k3 m1, fun i hi => by rw [m2 i hi, k4 i hi], m3, m4, m5, q2⟩
          · exact k1.elim
        cases e' with
        | normal =>
          cases e <;> first | exact k2.elim | skip
          exact ret k1
        | ret =>
          cases e <;> first | exact k2.elim | skip
          exact ret k1
        | exit id => exact k1.elim
        | panic v =>
          cases e <;> first | exact k2.elim | skip
          obtain ⟨c, q1, q2⟩ := k2
          exact ⟨k9, G', I', .pan v, h', k1, k3, k4, k7, k6, k5, c, q1, q2⟩
  · cases hc

theorem callsA_of_wpA (hm : P.follows .mixedOrders = true) {f : FuncId} {fn : Func} (hf : P.funcs[f]? = some fn) {rf : RFunc} (hc : kFunc P fn = some rf) {args : List AV} {h : Heap} {R : Out → Heap → Prop}
    (hw : wpA P h.length rf.body (retA h.length rf.res R) (args ++ List.replicate (rf.ntmps - args.length) (.tup [])) h) : CallsA P f args h R :=
  callsA_of_wpA_z (fun _ _ => VR_skip) hm hf hc hw
end
end Go.AM

namespace Go.AM

/-! Closed runs: the machine as a function with fuel. It hands back which blocks below a bound were touched. -/

abbrev XCall := Nat → List AV → Heap → Option (Out × Heap × List Nat)
abbrev XRes := Option (AExit × List AV × Heap × List Nat)

def updB (m : Nat) : Upd → Bool
  | [] => true
  | (_, k) :: u => blkBnd m k && updB m u

def below (lo : Nat) : List Nat → List Nat → List Nat
  | [], tc => tc
  | p :: ps, tc => if p < lo then p :: below lo ps tc else below lo ps tc

/-- Is an operation carried out? -/
def xGuard (g : Option (Nat × Bool)) (env : List AV) : Option Bool :=
  match g with
  | none => some true
  | some (d, want) => match env.getD d .undef with
    | .bool b => some (b == want)
    | .tup _ => some false
    | _ => none

def xOps (call : XCall) (lo : Nat) : List ROper → List AV → Heap → List Nat → XRes
  | [], env, h, tc => some (.normal, env, h, tc)
  | o :: os, env, h, tc =>
    match xGuard o.guard env with
    | some true => match o.op with
      | .call f as => match f.ev env with
        | .fn k caps => match call k (as.map (RO.ev env) ++ caps) h with
          | some (.ret v, h', tc') => xOps call lo os (setD env o.dst v) h' (below lo tc' tc)
          | some (.pan v, h', tc') => some (.panic v, env, h', below lo tc' tc)
          | none => none
        | _ => none
      | .panic x => match x.ev env with
        | .iface t v => some (.panic (.iface t v), env, h, tc)
        | _ => none
      | r => match r.run env h h.length with
        | some (true, v, u) => if updB (h.upd u).length u then xOps call lo os (setD env o.dst v) (h.upd u) (below lo (u.map (·.1)) tc) else none
        | _ => none
    | some false => xOps call lo os (setD env o.dst (.tup [])) h tc
    | none => none

def xDraw (call : XCall) (bef : List Nat) (lo : Nat) : List ROper → Nat → List LogE → List AV → Heap → List Nat → Option (List AV × Heap × List Nat)
  | [], _, _, env, h, tc => some (env, h, tc)
  | o :: os, i, log, env, h, tc =>
    match xGuard o.guard env with
    | some true => match o.op with
      | .panic _ => none
      | .call f as => match f.ev env with
        | .fn k caps => match call k (as.map (RO.ev env) ++ caps) (vw bef i log (o.op.foot env) h) with
          | some (.ret v, h', tc') =>
            if bndL h.length (as.map (RO.ev env) ++ caps) && tc'.all (fun p => decide (p < h.length) && wchkB bef i log p) then
              xDraw call bef lo os (i + 1) (log ++ [⟨o.op.foot env, h.length, h'.length, tc' ++ List.range' h.length (h'.length - h.length)⟩]) (setD env o.dst v)
                (h.upd (tc'.map fun p => (p, h'.at p)) ++ h'.drop h.length) (below lo tc' tc)
            else none
          | _ => none
        | _ => none
      | r => match r.run env (if r.heapy then vw bef i log (o.op.foot env) h else h) h.length with
        | some (true, v, u) => if (u.map (·.1)).all (fun p => decide (h.length ≤ p) || wchkB bef i log p) && updB (h.upd u).length u then
            xDraw call bef lo os (i + 1) (log ++ [⟨o.op.foot env, h.length, (h.upd u).length, u.map (·.1)⟩]) (setD env o.dst v) (h.upd u) (below lo (u.map (·.1)) tc) else none
        | _ => none
    | some false => xDraw call bef lo os (i + 1) (log ++ [⟨o.op.foot env, h.length, h.length, []⟩]) (setD env o.dst (.tup [])) h tc
    | none => none

def xLoop (body : List AV → Heap → List Nat → XRes) : Nat → List AV → Heap → List Nat → XRes
  | 0, _, _, _ => none
  | n + 1, env, h, tc => match body env h tc with
    | some (.normal, env', h', tc') => xLoop body n env' h' tc'
    | r => r

def xCode (call : XCall) (lo n : Nat) : RCode → List AV → Heap → List Nat → XRes
  | .skip, env, h, tc => some (.normal, env, h, tc)
  | .reg true bef ops, env, h, tc => match xDraw call bef lo ops 0 [] env h tc with
    | some (env', h', tc') => some (.normal, env', h', tc')
    | none => none
  | .reg false _ ops, env, h, tc => xOps call lo ops env h tc
  | .seq a b, env, h, tc => match xCode call lo n a env h tc with
    | some (.normal, env', h', tc') => xCode call lo n b env' h' tc'
    | r => r
  | .cond c a b, env, h, tc => match c.ev env with
    | .bool true => xCode call lo n a env h tc
    | .bool false => xCode call lo n b env h tc
    | _ => none
  | .block id b, env, h, tc => match xCode call lo n b env h tc with
    | some (.exit id', env', h', tc') => if id' = id then some (.normal, env', h', tc') else some (.exit id', env', h', tc')
    | r => r
  | .loop b, env, h, tc => xLoop (xCode call lo n b) n env h tc
  | .exit id, env, h, tc => some (.exit id, env, h, tc)
  | .ret, env, h, tc => some (.ret, env, h, tc)

end Go.AM

namespace Go.AM

mutual
theorem bnd_mono {n m : Nat} (hl : n ≤ m) : ∀ a : AV, a.bnd n = true → a.bnd m = true
  | .bool _, _ | .int _ _, _ | .str _, _ | .nilp, _ | .nils, _ | .emp, _ | .nilmap, _ | .nilfn, _ | .nilif, _ | .undef, _ => by simp [AV.bnd]
  | .agg cs, h => by simp only [AV.bnd] at h ⊢; exact bndL_mono hl cs h
  | .tup cs, h => by simp only [AV.bnd] at h ⊢; exact bndL_mono hl cs h
  | .ptr i _, h => by simp only [AV.bnd, decide_eq_true_eq] at h ⊢; omega
  | .vptr cs _, h => by simp only [AV.bnd] at h ⊢; exact bndL_mono hl cs h
  | .lit _ es, h => by simp only [AV.bnd] at h ⊢; exact bndL_mono hl es h
  | .slice i _ _ _, h => by simp only [AV.bnd, decide_eq_true_eq] at h ⊢; omega
  | .mapr i, h => by simp only [AV.bnd, decide_eq_true_eq] at h ⊢; omega
  | .fn _ cap, h => by simp only [AV.bnd] at h ⊢; exact bndL_mono hl cap h
  | .iface _ v, h => by simp only [AV.bnd] at h ⊢; exact bnd_mono hl v h
theorem bndL_mono {n m : Nat} (hl : n ≤ m) : ∀ as : List AV, bndL n as = true → bndL m as = true
  | [], _ => by simp [bndL]
  | a :: as, h => by
    simp only [bndL, Bool.and_eq_true] at h ⊢
    exact ⟨bnd_mono hl a h.1, bndL_mono hl as h.2⟩
end

theorem blkBnd_mono {n m : Nat} (hl : n ≤ m) {k : Option Blk} (h : blkBnd n k = true) : blkBnd m k = true := by
  cases k with
  | none => rfl
  | some k =>
    cases k with
    | cells cs => exact bndL_mono hl cs h
    | map es =>
      simp only [blkBnd, Bool.and_eq_true] at h ⊢
      exact ⟨bndL_mono hl _ h.1, bndL_mono hl _ h.2⟩

theorem heapBnd_iff {n : Nat} {h : Heap} : heapBnd n h = true ↔ ∀ p k, h.at p = some k → blkBnd n (some k) = true := by
  constructor
  · intro hb p k hp; exact heapBnd_at hb hp
  · intro hh
    unfold heapBnd
    rw [List.all_eq_true]
    intro k hk
    cases k with
    | none => rfl
    | some k =>
      obtain ⟨p, hp⟩ := List.getElem?_of_mem hk
      exact hh p k (by unfold Heap.at; rw [hp]; rfl)

theorem updB_mem {m : Nat} : ∀ {u : Upd}, updB m u = true → ∀ x ∈ u, blkBnd m x.2 = true
  | [], _, x, hx => by simp at hx
  | (i, k) :: u, h, x, hx => by
    simp only [updB, Bool.and_eq_true] at h
    rcases List.mem_cons.1 hx with rfl | hx
    · exact h.1
    · exact updB_mem h.2 x hx

theorem upd_at_val : ∀ (u : Upd) (h : Heap) (p : Nat) (k : Blk), (h.upd u).at p = some k → h.at p = some k ∨ (p, some k) ∈ u
  | [], h, p, k, hk => .inl hk
  | (i, k') :: u, h, p, k, hk => by
    simp only [Heap.upd] at hk
    rcases upd_at_val u _ p k hk with h1 | h1
    · rw [Heap.at_set] at h1
      split at h1
      · rename_i hi
        subst hi; subst h1
        exact .inr (by simp)
      · exact .inl h1
    · exact .inr (by simp [h1])

theorem heapBnd_upd {h : Heap} {u : Upd} (hb : heapBnd h.length h = true) (hu : updB (h.upd u).length u = true) : heapBnd (h.upd u).length (h.upd u) = true := by
  rw [heapBnd_iff]
  intro p k hk
  rcases upd_at_val u h p k hk with h1 | h1
  · exact blkBnd_mono (Heap.length_upd_le u h) (heapBnd_at hb h1)
  · exact updB_mem hu _ h1

theorem heapBnd_vw {n : Nat} {h : Heap} (hb : heapBnd n h = true) (bef : List Nat) (i : Nat) (log : List LogE) (f : Option (List Nat)) : heapBnd n (vw bef i log f h) = true := by
  rw [heapBnd_iff]
  intro p k hk
  replace hk := (vw_at _ _ _ _ _ _ _ hk).1
  rw [mask_at] at hk
  split at hk
  · cases hk
  · exact heapBnd_at hb hk

theorem mem_below (lo : Nat) : ∀ (ps tc : List Nat) (p : Nat), p ∈ below lo ps tc ↔ (p ∈ ps ∧ p < lo) ∨ p ∈ tc
  | [], tc, p => by simp [below]
  | q :: ps, tc, p => by
    simp only [below]
    split
    · simp only [List.mem_cons, mem_below lo ps tc p]
      constructor
      · rintro (rfl | ⟨h1, h2⟩ | h)
        · exact .inl ⟨.inl rfl, by assumption⟩
        · exact .inl ⟨.inr h1, h2⟩
        · exact .inr h
      · rintro (⟨rfl | h1, h2⟩ | h)
        · exact .inl rfl
        · exact .inr (.inl ⟨h1, h2⟩)
        · exact .inr (.inr h)
    · rename_i hq
      simp only [List.mem_cons, mem_below lo ps tc p]
      constructor
      · rintro (⟨h1, h2⟩ | h)
        · exact .inl ⟨.inr h1, h2⟩
        · exact .inr h
      · rintro (⟨rfl | h1, h2⟩ | h)
        · exact absurd h2 hq
        · exact .inl ⟨h1, h2⟩
        · exact .inr h

structure Kept (lo : Nat) (h : Heap) (tc : List Nat) (h' : Heap) (tc' : List Nat) : Prop where
  bnd : heapBnd h'.length h' = true
  len : h.length ≤ h'.length
  sub : ∀ p ∈ tc, p ∈ tc'
  low : ∀ p ∈ tc', p ∈ tc ∨ p < lo
  at_ : ∀ p, p < lo → p ∉ tc' → h'.at p = h.at p

theorem Kept.refl {lo : Nat} {h : Heap} {tc : List Nat} (hb : heapBnd h.length h = true) : Kept lo h tc h tc :=
  ⟨hb, Nat.le_refl _, fun _ h => h, fun _ h => .inl h, fun _ _ _ => rfl⟩

theorem Kept.trans {lo : Nat} {h h' h'' : Heap} {tc tc' tc'' : List Nat} (k : Kept lo h tc h' tc') (k' : Kept lo h' tc' h'' tc'') : Kept lo h tc h'' tc'' :=
  ⟨k'.bnd, Nat.le_trans k.len k'.len, fun p hp => k'.sub p (k.sub p hp), fun p hp => (k'.low p hp).elim (k.low p) .inr,
    fun p hl hp => by rw [k'.at_ p hl hp, k.at_ p hl (fun hx => hp (k'.sub p hx))]⟩

theorem Kept.upd {lo : Nat} {h : Heap} {tc : List Nat} {u : Upd} (hb : heapBnd h.length h = true) (hu : updB (h.upd u).length u = true) : Kept lo h tc (h.upd u) (below lo (u.map (·.1)) tc) :=
  ⟨heapBnd_upd hb hu, Heap.length_upd_le u h, fun p hp => (mem_below _ _ _ _).2 (.inr hp), fun p hp => ((mem_below _ _ _ _).1 hp).elim (fun x => .inr x.2) .inl,
    fun p hl hp => upd_at_not u h p fun hx => hp ((mem_below _ _ _ _).2 (.inl ⟨hx, hl⟩))⟩

def CallOK (P : Program) (call : XCall) : Prop := ∀ f args h out h' tc, heapBnd h.length h = true → call f args h = some (out, h', tc) →
  CallsA P f args h (fun o k => o = out ∧ k = h') ∧ Kept h.length h [] h' tc

theorem Kept.call {lo : Nat} {h h' : Heap} {tc tc' : List Nat} (hlo : lo ≤ h.length) (k : Kept h.length h [] h' tc') : Kept lo h tc h' (below lo tc' tc) :=
  ⟨k.bnd, k.len, fun p hp => (mem_below _ _ _ _).2 (.inr hp), fun p hp => ((mem_below _ _ _ _).1 hp).elim (fun x => .inr x.2) .inl,
    fun p hl hp => k.at_ p (by omega) (fun hx => hp ((mem_below _ _ _ _).2 (.inl ⟨hx, hl⟩)))⟩

section
variable {P : Program} {call : XCall} {lo : Nat}

theorem xGuard_spec {o : ROper} {env : List AV} {b : Bool} (hg : xGuard o.guard env = some b) : (b = true → goG o env) ∧ (b = false → skipG o env) := by
  unfold xGuard at hg
  split at hg
  · rename_i h; injection hg with hg; subst hg; exact ⟨fun _ => .inl h, fun e => (by cases e)⟩
  · rename_i d want h
    split at hg
    · rename_i c hc
      injection hg with hg; subst hg
      exact ⟨fun e => .inr ⟨d, want, c, h, hc, e⟩, fun e => ⟨d, want, h, .inl ⟨c, hc, e⟩⟩⟩
    · rename_i vs hvs
      injection hg with hg; subst hg
      exact ⟨fun e => (by cases e), fun _ => ⟨d, want, h, .inr ⟨vs, hvs⟩⟩⟩
    · cases hg

theorem wpOps_go {o : ROper} {os : List ROper} {env : List AV} {h : Heap} {n0 : Nat} {Q : Post} (hg : goG o env) (hw : wpOp P n0 o Q (wpOps P n0 Q os) env h) : wpOps P n0 Q (o :: os) env h := by
  unfold wpOps
  rcases hg with hg | ⟨d, want, b, hg, hb, hbw⟩
  · simp only [hg]; exact hw
  · simp only [hg, hb]
    exact ⟨fun _ => hw, fun e => by rw [hbw] at e; cases e⟩

theorem wpOps_skip {o : ROper} {os : List ROper} {env : List AV} {h : Heap} {n0 : Nat} {Q : Post} (hg : skipG o env) (hw : wpOps P n0 Q os (setD env o.dst (.tup [])) h) : wpOps P n0 Q (o :: os) env h := by
  unfold wpOps
  obtain ⟨d, want, hg, ⟨b, hb, hbw⟩ | ⟨vs, hvs⟩⟩ := hg
  · simp only [hg, hb]
    exact ⟨fun e => (by rw [hbw] at e; cases e), fun _ => hw⟩
  · simp only [hg, hvs]; exact hw

theorem xOps_sound (hcall : CallOK P call) : ∀ (os : List ROper) (env : List AV) (h : Heap) (tc : List Nat) (e : AExit) (env' : List AV) (h' : Heap) (tc' : List Nat), lo ≤ h.length → heapBnd h.length h = true →
    xOps call lo os env h tc = some (e, env', h', tc') → Kept lo h tc h' tc' ∧ ∀ (m0 : Nat) (Q : Post), Q e env' h' → wpOps P m0 Q os env h
  | [], env, h, tc, e, env', h', tc', hlo, hb, hx => by
    simp only [xOps, Option.some.injEq, Prod.mk.injEq] at hx
    obtain ⟨rfl, rfl, rfl, rfl⟩ := hx
    exact ⟨Kept.refl hb, fun m0 Q hq => hq⟩
  | o :: os, env, h, tc, e, env', h', tc', hlo, hb, hx => by
    simp only [xOps] at hx
    split at hx
    · rename_i hg
      have hgo := (xGuard_spec hg).1 rfl
      split at hx
      · rename_i f as hop
        split at hx
        · rename_i k caps hk
          split at hx
          · rename_i v h1 tc1 hc
            obtain ⟨c1, c2⟩ := hcall _ _ _ _ _ _ hb hc
            obtain ⟨k1, k2⟩ := xOps_sound hcall os _ h1 _ e env' h' tc' (Nat.le_trans hlo c2.len) c2.bnd hx
            refine ⟨(c2.call hlo).trans k1, fun m0 Q hq => wpOps_go hgo ?_⟩
            unfold wpOp
            simp only [hop]
            refine ⟨env, h, Wk.refl, ?_⟩
            simp only [hk]
            refine c1.mono ?_
            rintro out k ⟨rfl, rfl⟩
            exact k2 m0 Q hq
          · rename_i v h1 tc1 hc
            obtain ⟨c1, c2⟩ := hcall _ _ _ _ _ _ hb hc
            simp only [Option.some.injEq, Prod.mk.injEq] at hx
            obtain ⟨rfl, rfl, rfl, rfl⟩ := hx
            refine ⟨c2.call hlo, fun m0 Q hq => wpOps_go hgo ?_⟩
            unfold wpOp
            simp only [hop]
            refine ⟨env, h, Wk.refl, ?_⟩
            simp only [hk]
            refine c1.mono ?_
            rintro out k ⟨rfl, rfl⟩
            exact hq
          · cases hx
        · cases hx
      · rename_i x hop
        split at hx
        · rename_i t v hv
          simp only [Option.some.injEq, Prod.mk.injEq] at hx
          obtain ⟨rfl, rfl, rfl, rfl⟩ := hx
          refine ⟨Kept.refl hb, fun m0 Q hq => wpOps_go hgo ?_⟩
          unfold wpOp
          simp only [hop, hv]
          exact hq
        · cases hx
      · rename_i n1 n2
        split at hx
        · rename_i v u hr
          split at hx
          · rename_i hu
            have kk := Kept.upd (lo := lo) (tc := tc) hb hu
            obtain ⟨k1, k2⟩ := xOps_sound hcall os _ (h.upd u) _ e env' h' tc' (Nat.le_trans hlo kk.len) kk.bnd hx
            refine ⟨kk.trans k1, fun m0 Q hq => wpOps_go hgo ?_⟩
            unfold wpOp
            split
            · rename_i f as hop; exact absurd hop (n1 f as)
            · rename_i x hop; exact absurd hop (n2 x)
            · rw [hr]; exact ⟨rfl, k2 m0 Q hq⟩
          · cases hx
        · cases hx
    · rename_i hg
      have hsk := (xGuard_spec hg).2 rfl
      obtain ⟨k1, k2⟩ := xOps_sound hcall os _ h tc e env' h' tc' hlo hb hx
      exact ⟨k1, fun m0 Q hq => wpOps_skip hsk (k2 m0 Q hq)⟩
    · cases hx

theorem DrawOK_skip {bef : List Nat} {K : List AV → Heap → Prop} {o : ROper} {os : List ROper} {i : Nat} {log : List LogE} {env : List AV} {h : Heap} (hg : skipG o env)
    (hw : DrawOK P bef K os (i + 1) (log ++ [⟨o.op.foot env, h.length, h.length, []⟩]) (setD env o.dst (.tup [])) h) : DrawOK P bef K (o :: os) i log env h := by
  unfold DrawOK
  obtain ⟨d, want, hg, ⟨b, hb, hbw⟩ | ⟨vs, hvs⟩⟩ := hg
  · simp only [hg, hb]
    exact ⟨fun e => (by rw [hbw] at e; cases e), fun _ => hw⟩
  · simp only [hg, hvs]; exact hw

theorem DrawOK_call {bef : List Nat} {K : List AV → Heap → Prop} {o : ROper} {os : List ROper} {i : Nat} {log : List LogE} {env : List AV} {h : Heap} (hg : goG o env)
    {f : RO} {args : List RO} (hop : o.op = .call f args) {k : Nat} {caps : List AV} (hk : f.ev env = .fn k caps) (v : AV) (uo : Upd) (news : List (Option Blk))
    (h1 : CallsA P k (args.map (RO.ev env) ++ caps) (vw bef i log (o.op.foot env) h) (fun out h' => out = .ret v ∧ h' = (vw bef i log (o.op.foot env) h).upd (uo ++ newsU h.length news)))
    (h2 : (uo.map (·.1)).all (fun p => decide (p < h.length) && wchkB bef i log p) = true)
    (h3 : (bndL h.length (args.map (RO.ev env) ++ caps) && heapBnd h.length (vw bef i log (o.op.foot env) h)) = true)
    (hw : DrawOK P bef K os (i + 1) (log ++ [⟨o.op.foot env, h.length, h.length + news.length, uo.map (·.1) ++ List.range' h.length news.length⟩]) (setD env o.dst v) (h.upd (uo ++ newsU h.length news))) :
    DrawOK P bef K (o :: os) i log env h := by
  rw [hop] at h1 h3 hw
  unfold DrawOK
  rcases hg with hg | ⟨d, want, b, hg, hb, hbw⟩
  · simp only [hg, hop, hk]; exact ⟨v, uo, news, h1, h2, h3, hw⟩
  · simp only [hg, hb, hop, hk]
    exact ⟨fun _ => ⟨v, uo, news, h1, h2, h3, hw⟩, fun e => by rw [hbw] at e; cases e⟩

theorem DrawOK_op {bef : List Nat} {K : List AV → Heap → Prop} {o : ROper} {os : List ROper} {i : Nat} {log : List LogE} {env : List AV} {h : Heap} (hg : goG o env)
    (n1 : ∀ f as, o.op ≠ .call f as) (n2 : ∀ x, o.op ≠ .panic x) {v : AV} {u : Upd} (h1 : o.op.run env (vw bef i log (o.op.foot env) h) h.length = some (true, v, u))
    (h2 : (u.map (·.1)).all (fun p => decide (h.length ≤ p) || wchkB bef i log p) = true)
    (hw : DrawOK P bef K os (i + 1) (log ++ [⟨o.op.foot env, h.length, (h.upd u).length, u.map (·.1)⟩]) (setD env o.dst v) (h.upd u)) :
    DrawOK P bef K (o :: os) i log env h := by
  unfold DrawOK
  rcases hg with hg | ⟨d, want, b, hg, hb, hbw⟩
  · simp only [hg, h1]; exact ⟨trivial, h2, hw⟩
  · simp only [hg, hb, h1]
    exact ⟨fun _ => ⟨trivial, h2, hw⟩, fun e => (by rw [hbw] at e; cases e)⟩

theorem get_at {h : Heap} {p : Nat} (hp : p < h.length) : h[p]? = some (h.at p) := by
  unfold Heap.at
  rw [List.getElem?_eq_getElem hp]; rfl

theorem heap_ext {h h' : Heap} (hl : h.length = h'.length) (ha : ∀ p, h.at p = h'.at p) : h = h' := by
  apply List.ext_getElem? 
  intro p
  rcases Nat.lt_or_ge p h.length with q | q
  · rw [get_at q, get_at (by omega), ha]
  · rw [List.getElem?_eq_none q, List.getElem?_eq_none (by omega)]

theorem at_append_lt {a b : Heap} {p : Nat} (hp : p < a.length) : (a ++ b).at p = a.at p := by
  exact congrArg Option.join (List.getElem?_append_left hp)
theorem at_append_ge {a b : Heap} {p : Nat} (hp : a.length ≤ p) : (a ++ b).at p = b.at (p - a.length) := by
  exact congrArg Option.join (List.getElem?_append_right hp)

theorem upd_map_at (h' : Heap) : ∀ (tc : List Nat) (h : Heap) (p : Nat), p ∈ tc → (h.upd (tc.map fun p => (p, h'.at p))).at p = h'.at p
  | [], h, p, hp => by simp at hp
  | q :: tc, h, p, hp => by
    simp only [List.map_cons, Heap.upd]
    by_cases hm : p ∈ tc
    · exact upd_map_at h' tc _ p hm
    · rcases List.mem_cons.1 hp with rfl | hp
      · rw [upd_at_not _ _ _ (by simpa using hm), Heap.at_set, if_pos rfl]
      · exact absurd hp hm

/-- What a call leaves behind, told by what it touched. -/
theorem Kept.heap {hm h' : Heap} {tc : List Nat} (k : Kept hm.length hm [] h' tc) :
    h' = hm.upd ((tc.map fun p => (p, h'.at p)) ++ newsU hm.length (h'.drop hm.length)) := by
  have hlt : ∀ p ∈ (tc.map fun p => (p, h'.at p)).map (·.1), p < hm.length := by
    intro p hp
    simp only [List.map_map, List.mem_map, Function.comp] at hp
    obtain ⟨q, hq, rfl⟩ := hp
    exact (k.low q hq).resolve_left (by simp)
  have hll := upd_length_lt _ hm hlt
  rw [upd_append]
  have e := newsU_upd (h'.drop hm.length) (hm.upd (tc.map fun p => (p, h'.at p)))
  rw [hll] at e
  rw [e]
  apply heap_ext
  · rw [List.length_append, hll, List.length_drop]; have := k.len; omega
  · intro p
    rcases Nat.lt_or_ge p hm.length with q | q
    · rw [at_append_lt (by omega)]
      by_cases hp : p ∈ tc
      · rw [upd_map_at h' tc hm p hp]
      · rw [upd_at_not _ _ _ (by simpa using hp)]
        exact k.at_ p q hp
    · rw [at_append_ge (by omega), hll]
      unfold Heap.at
      rw [List.getElem?_drop]
      congr 2; omega
end
end Go.AM

namespace Go.AM
section
variable {P : Program} {call : XCall} {lo : Nat}

theorem xDraw_sound (hcall : CallOK P call) {bef : List Nat} : ∀ (os : List ROper) (i : Nat) (log : List LogE) (env : List AV) (h : Heap) (tc : List Nat) (env' : List AV) (h' : Heap) (tc' : List Nat), lo ≤ h.length → heapBnd h.length h = true →
    xDraw call bef lo os i log env h tc = some (env', h', tc') → Kept lo h tc h' tc' ∧ ∀ K : List AV → Heap → Prop, K env' h' → DrawOK P bef K os i log env h
  | [], i, log, env, h, tc, env', h', tc', hlo, hb, hx => by
    simp only [xDraw, Option.some.injEq, Prod.mk.injEq] at hx
    obtain ⟨rfl, rfl, rfl⟩ := hx
    exact ⟨Kept.refl hb, fun K hk => hk⟩
  | o :: os, i, log, env, h, tc, env', h', tc', hlo, hb, hx => by
    simp only [xDraw] at hx
    split at hx
    · rename_i hg
      have hgo := (xGuard_spec hg).1 rfl
      split at hx
      · cases hx
      · rename_i f as hop
        split at hx
        · rename_i k caps hk
          split at hx
          · rename_i v h1 tc1 hc
            split at hx
            · rename_i hchk
              simp only [Bool.and_eq_true] at hchk
              have hml := vw_length bef i log (o.op.foot env) h
              have hbm : heapBnd h.length (vw bef i log (o.op.foot env) h) = true := heapBnd_vw hb _ _ _ _
              obtain ⟨c1, c2⟩ := hcall _ _ _ _ _ _ (by rw [hml]; exact hbm) hc
              have c3 : Kept (vw bef i log (o.op.foot env) h).length (vw bef i log (o.op.foot env) h) [] h1 tc1 := c2
              have hh := c3.heap
              rw [hml] at hh
              have hlen : h.length ≤ h1.length := by have := c2.len; rwa [hml] at this
              have hfst : (tc1.map fun p => (p, h1.at p)).map (·.1) = tc1 := by
                rw [List.map_map]
                have : ((fun x : Nat × Option Blk => x.1) ∘ fun p => (p, h1.at p)) = id := rfl
                rw [this, List.map_id]
              have hlt : ∀ p ∈ (tc1.map fun p => (p, h1.at p)).map (·.1), p < h.length := by
                rw [hfst]; intro p hp
                have := (c2.low p hp).resolve_left (by simp)
                rwa [hml] at this
              have hll := upd_length_lt _ h hlt
              have hnew : h.upd (tc1.map fun p => (p, h1.at p)) ++ h1.drop h.length = h.upd ((tc1.map fun p => (p, h1.at p)) ++ newsU h.length (h1.drop h.length)) := by
                rw [upd_append]
                have e := newsU_upd (h1.drop h.length) (h.upd (tc1.map fun p => (p, h1.at p)))
                rw [hll] at e
                rw [e]
              have hnl : (h.upd (tc1.map fun p => (p, h1.at p)) ++ h1.drop h.length).length = h1.length := by
                rw [List.length_append, hll, List.length_drop]; omega
              have kk : Kept lo h tc (h.upd (tc1.map fun p => (p, h1.at p)) ++ h1.drop h.length) (below lo tc1 tc) := by
                refine ⟨?_, by rw [hnl]; exact hlen, fun p hp => (mem_below _ _ _ _).2 (.inr hp), fun p hp => ((mem_below _ _ _ _).1 hp).elim (fun x => .inr x.2) .inl, ?_⟩
                · rw [hnl, heapBnd_iff]
                  intro p kb hp
                  rcases Nat.lt_or_ge p h.length with q | q
                  · rw [at_append_lt (by rw [hll]; exact q)] at hp
                    rcases upd_at_val _ h p kb hp with g | g
                    · exact blkBnd_mono hlen (heapBnd_at hb g)
                    · simp only [List.mem_map, Prod.mk.injEq] at g
                      obtain ⟨q', _, rfl, g⟩ := g
                      exact heapBnd_at c2.bnd g
                  · rw [at_append_ge (by rw [hll]; exact q), hll] at hp
                    have : h1.at p = some kb := by
                      unfold Heap.at at hp ⊢
                      rw [List.getElem?_drop] at hp
                      rw [← hp]; congr 2; omega
                    exact heapBnd_at c2.bnd this
                · intro p hl hp
                  rw [at_append_lt (by rw [hll]; omega)]
                  refine upd_at_not _ h p ?_
                  rw [hfst]
                  intro hx
                  exact hp ((mem_below _ _ _ _).2 (.inl ⟨hx, hl⟩))
              obtain ⟨k1, k2⟩ := xDraw_sound hcall os (i + 1) _ _ _ _ env' h' tc' (Nat.le_trans hlo kk.len) kk.bnd hx
              refine ⟨kk.trans k1, fun K hK => DrawOK_call hgo hop hk v (tc1.map fun p => (p, h1.at p)) (h1.drop h.length) ?_ ?_ ?_ ?_⟩
              · rw [← hh]; exact c1.mono fun out k ⟨e1, e2⟩ => ⟨e1, e2⟩
              · rw [hfst]; exact hchk.2
              · rw [hchk.1, hbm]; rfl
              · rw [hfst, List.length_drop, ← hnew]
                have e : h.length + (h1.length - h.length) = h1.length := by omega
                rw [e]
                exact k2 K hK
            · cases hx
          · cases hx
        · cases hx
      · rename_i n2 n1
        split at hx
        · rename_i v u hr
          split at hx
          · rename_i hu
            simp only [Bool.and_eq_true] at hu
            have hr' : o.op.run env (vw bef i log (o.op.foot env) h) h.length = some (true, v, u) := by
              cases hh : o.op.heapy with
              | true => rw [hh] at hr; simpa using hr
              | false =>
                rw [hh] at hr
                rw [← hr]
                exact (run_dull o.op hh _ _).1
            have kk := Kept.upd (lo := lo) (tc := tc) hb hu.2
            obtain ⟨k1, k2⟩ := xDraw_sound hcall os (i + 1) _ _ (h.upd u) _ env' h' tc' (Nat.le_trans hlo kk.len) kk.bnd hx
            exact ⟨kk.trans k1, fun K hK => DrawOK_op hgo n1 n2 hr' hu.1 (k2 K hK)⟩
          · cases hx
        · cases hx
    · rename_i hg
      have hsk := (xGuard_spec hg).2 rfl
      obtain ⟨k1, k2⟩ := xDraw_sound hcall os (i + 1) _ _ h tc env' h' tc' hlo hb hx
      exact ⟨k1, fun K hK => DrawOK_skip hsk (k2 K hK)⟩
    · cases hx

def BodyOK (P : Program) (lo : Nat) (rc : RCode) (body : List AV → Heap → List Nat → XRes) : Prop := ∀ env h tc e env' h' tc', lo ≤ h.length → heapBnd h.length h = true →
  body env h tc = some (e, env', h', tc') → Kept lo h tc h' tc' ∧ ∀ (m0 : Nat) (Q : Post), Q e env' h' → wpA P m0 rc Q env h

theorem xLoop_kept {rc : RCode} {body : List AV → Heap → List Nat → XRes} (hb : BodyOK P lo rc body) : ∀ (n : Nat) (env : List AV) (h : Heap) (tc : List Nat) (e : AExit) (env' : List AV) (h' : Heap) (tc' : List Nat), lo ≤ h.length → heapBnd h.length h = true →
    xLoop body n env h tc = some (e, env', h', tc') → Kept lo h tc h' tc'
  | 0, env, h, tc, e, env', h', tc', hlo, hbd, hx => by cases hx
  | n + 1, env, h, tc, e, env', h', tc', hlo, hbd, hx => by
    simp only [xLoop] at hx
    split at hx
    · rename_i env1 h1 tc1 hr
      obtain ⟨k1, _⟩ := hb _ _ _ _ _ _ _ hlo hbd hr
      exact k1.trans (xLoop_kept hb n _ _ _ _ _ _ _ (Nat.le_trans hlo k1.len) k1.bnd hx)
    · exact (hb _ _ _ _ _ _ _ hlo hbd hx).1

theorem xLoop_sound {rc : RCode} {body : List AV → Heap → List Nat → XRes} (hb : BodyOK P lo rc body) (n : Nat) : BodyOK P lo (.loop rc) (xLoop body n) := by
  intro env h tc e env' h' tc' hlo hbd hx
  refine ⟨xLoop_kept hb n env h tc e env' h' tc' hlo hbd hx, fun m0 Q hQ => ?_⟩
  refine ⟨fun m env h => ∃ tc, lo ≤ h.length ∧ heapBnd h.length h = true ∧ xLoop body m env h tc = some (e, env', h', tc'), ⟨n, env, h, Wk.refl, tc, hlo, hbd, hx⟩, ?_⟩
  rintro m env1 h1 ⟨tc1, g1, g2, g3⟩
  cases m with
  | zero => cases g3
  | succ m =>
    simp only [xLoop] at g3
    split at g3
    · rename_i env2 h2 tc2 hr
      obtain ⟨k1, k2⟩ := hb _ _ _ _ _ _ _ g1 g2 hr
      exact k2 m0 _ ⟨m, _, _, by omega, Wk.refl, tc2, Nat.le_trans g1 k1.len, k1.bnd, g3⟩
    · rename_i hne
      obtain ⟨k1, k2⟩ := hb _ _ _ _ _ _ _ g1 g2 g3
      refine k2 m0 _ ?_
      cases e with
      | normal => exact absurd g3 (hne _ _ _)
      | _ => exact hQ

theorem xCode_sound (hcall : CallOK P call) (n : Nat) : ∀ rc : RCode, BodyOK P lo rc (xCode call lo n rc) := by
  intro rc
  induction rc with
  | skip =>
    intro env h tc e env' h' tc' hlo hb hx
    simp only [xCode, Option.some.injEq, Prod.mk.injEq] at hx
    obtain ⟨rfl, rfl, rfl, rfl⟩ := hx
    exact ⟨Kept.refl hb, fun m0 Q hQ => hQ⟩
  | reg draw bef ops =>
    intro env h tc e env' h' tc' hlo hb hx
    cases draw with
    | true =>
      simp only [xCode] at hx
      split at hx
      · rename_i env1 h1 tc1 hr
        simp only [Option.some.injEq, Prod.mk.injEq] at hx
        obtain ⟨rfl, rfl, rfl, rfl⟩ := hx
        obtain ⟨k1, k2⟩ := xDraw_sound hcall _ _ _ _ _ _ _ _ _ hlo hb hr
        exact ⟨k1, fun m0 Q hQ => k2 _ hQ⟩
      · cases hx
    | false => exact xOps_sound hcall _ _ _ _ _ _ _ _ hlo hb hx
  | seq a b iha ihb =>
    intro env h tc e env' h' tc' hlo hb hx
    simp only [xCode] at hx
    split at hx
    · rename_i env1 h1 tc1 hr
      obtain ⟨k1, k2⟩ := iha _ _ _ _ _ _ _ hlo hb hr
      obtain ⟨k3, k4⟩ := ihb _ _ _ _ _ _ _ (Nat.le_trans hlo k1.len) k1.bnd hx
      exact ⟨k1.trans k3, fun m0 Q hQ => k2 m0 _ ⟨_, _, Wk.refl, k4 m0 Q hQ⟩⟩
    · rename_i hne
      obtain ⟨k1, k2⟩ := iha _ _ _ _ _ _ _ hlo hb hx
      refine ⟨k1, fun m0 Q hQ => k2 m0 _ ?_⟩
      cases e with
      | normal => exact absurd hx (hne _ _ _)
      | _ => exact hQ
  | cond c a b iha ihb =>
    intro env h tc e env' h' tc' hlo hb hx
    simp only [xCode] at hx
    split at hx
    · rename_i hc
      obtain ⟨k1, k2⟩ := iha _ _ _ _ _ _ _ hlo hb hx
      refine ⟨k1, fun m0 Q hQ => ?_⟩
      simp only [wpA, hc]
      exact ⟨fun _ => k2 m0 Q hQ, fun e => (by cases e)⟩
    · rename_i hc
      obtain ⟨k1, k2⟩ := ihb _ _ _ _ _ _ _ hlo hb hx
      refine ⟨k1, fun m0 Q hQ => ?_⟩
      simp only [wpA, hc]
      exact ⟨fun e => (by cases e), fun _ => k2 m0 Q hQ⟩
    · cases hx
  | block id b ih =>
    intro env h tc e env' h' tc' hlo hb hx
    simp only [xCode] at hx
    split at hx
    · rename_i id' env1 h1 tc1 hr
      obtain ⟨k1, k2⟩ := ih _ _ _ _ _ _ _ hlo hb hr
      split at hx
      · rename_i hid
        simp only [Option.some.injEq, Prod.mk.injEq] at hx
        obtain ⟨rfl, rfl, rfl, rfl⟩ := hx
        exact ⟨k1, fun m0 Q hQ => k2 m0 _ (by simp only [blockA]; rw [if_pos hid]; exact hQ)⟩
      · rename_i hid
        simp only [Option.some.injEq, Prod.mk.injEq] at hx
        obtain ⟨rfl, rfl, rfl, rfl⟩ := hx
        exact ⟨k1, fun m0 Q hQ => k2 m0 _ (by simp only [blockA]; rw [if_neg hid]; exact hQ)⟩
    · rename_i hne
      obtain ⟨k1, k2⟩ := ih _ _ _ _ _ _ _ hlo hb hx
      refine ⟨k1, fun m0 Q hQ => k2 m0 _ ?_⟩
      cases e with
      | exit id' => exact absurd hx (hne _ _ _ _)
      | _ => exact hQ
  | loop b ih =>
    intro env h tc e env' h' tc' hlo hb hx
    exact xLoop_sound ih n _ _ _ _ _ _ _ hlo hb hx
  | exit id =>
    intro env h tc e env' h' tc' hlo hb hx
    simp only [xCode, Option.some.injEq, Prod.mk.injEq] at hx
    obtain ⟨rfl, rfl, rfl, rfl⟩ := hx
    exact ⟨Kept.refl hb, fun m0 Q hQ => hQ⟩
  | ret =>
    intro env h tc e env' h' tc' hlo hb hx
    simp only [xCode, Option.some.injEq, Prod.mk.injEq] at hx
    obtain ⟨rfl, rfl, rfl, rfl⟩ := hx
    exact ⟨Kept.refl hb, fun m0 Q hQ => hQ⟩

end
end Go.AM

namespace Go.AM

/-! A function that defers one closure; the closure recovers. -/

structure HFunc where
  ntmps : Nat
  r : Nat
  d : Nat
  body : RCode

def isRec (o : Oper) : Option Nat := match o.op, o.guard, o.dst with
  | .call ⟨.builtin .recover, _, _⟩, none, some r => some r
  | _, _, _ => none

def isMv (o : Oper) (r : Nat) : Option Nat := match o.op, o.guard, o.dst with
  | .assign (.tmp t), none, some d => if t = r then some d else none
  | .move (.tmp t), none, some d => if t = r then some d else none
  | _, _, _ => none

def hFunc (P : Program) (f : Func) : Option HFunc :=
  match f.body with
  | some (.seq (.region _ ops false) rest) => match ops.toList with
    | [o0, o1] => match isRec o0 with
      | some r => match isMv o1 r, kCode P rest with
        | some d, some b => if (f.name == "runtime.NumGoroutine" || !f.results.toList.isEmpty) || !decide (r < f.ntmps) then none else some ⟨f.ntmps, r, d, b⟩
        | _, _ => none
      | none => none
    | _ => none
  | _ => none

def dRegion (P : Program) : Code → Option (Nat × Nat × List RO)
  | .region _ ops false => match ops.toList with
    | [o0, o1] => match cOper P ops o0 with
      | some ⟨some t, none, .mkfn f caps⟩ => match o1.op, o1.guard, o1.dst with
        | .defer ⟨.value (.tmp t'), args, _⟩, none, none => if t' = t ∧ args.size = 0 then some (t, f, caps) else none
        | _, _, _ => none
      | _ => none
    | _ => none
  | _ => none

structure GFunc where
  ntmps : Nat
  res : List RRes
  pre : RCode
  t : Nat
  df : Nat
  caps : List RO
  post : RCode

def gCode (P : Program) : Code → Option (RCode × Nat × Nat × List RO × RCode)
  | .seq a rest => match dRegion P a with
    | some (t, f, caps) => (kCode P rest).map fun c => (.skip, t, f, caps, c)
    | none => match kCode P a, gCode P rest with
      | some ra, some (pre, x) => some (.seq ra pre, x)
      | _, _ => none
  | _ => none

def gFunc (P : Program) (f : Func) : Option GFunc :=
  match f.body, cRes P f.results.toList with
  | some b, some r => if f.name == "runtime.NumGoroutine" then none else (gCode P b).map fun (pre, t, df, caps, post) => ⟨f.ntmps, r, pre, t, df, caps, post⟩
  | _, _ => none

def hEnd (K : Heap → Prop) : Post := fun e _ h => match e with
  | .normal | .ret => K h
  | _ => False

def hEnv (H : HFunc) (cv : List AV) (x : AV) : List AV := ((cv ++ List.replicate (H.ntmps - cv.length) (AV.tup [])).set H.r x).set H.d x

/-- From the deferred call's end on. -/
def gLeave (P : Program) (H : HFunc) (cv : List AV) (res : List RRes) (R : Out → Heap → Prop) : Post := fun e env h => match e with
  | .normal | .ret => wpA P h.length H.body (hEnd fun h' => ∃ v, resA res env h' = some v ∧ R (.ret v) h') (hEnv H cv .nilif) h
  | .panic v => wpA P h.length H.body (hEnd fun h' => ∃ v, resA res env h' = some v ∧ R (.ret v) h') (hEnv H cv v) h
  | .exit _ => False

def gNext (P : Program) (G : GFunc) (H : HFunc) (R : Out → Heap → Prop) (env : List AV) (h : Heap) : Prop :=
  wpA P h.length G.post (gLeave P H (G.caps.map (RO.ev env)) G.res R) (env.set G.t (.fn G.df (G.caps.map (RO.ev env)))) h

section
variable {P : Program} {G0 : Snap} {L : Lk} {I0 : Inj} {n0 : Nat}

theorem isRec_spec {o : Oper} {r : Nat} (h : isRec o = some r) (a : Act) (w : World) : (execOp a.eval o).run P w = .ok .recover w ∧ o.guard = none ∧ o.dst = some r := by
  unfold isRec at h
  split at h
  · rename_i as ts r' h1 h2 h3
    injection h with h; subst h
    refine ⟨?_, h2, h3⟩
    unfold execOp
    simp [h1, resolve, invoke, builtin]
  · cases h

theorem isMv_spec {o : Oper} {r d : Nat} (h : isMv o r = some d) (a : Act) (w : World) : (execOp a.eval o).run P w = .ok (.value (a.eval (.tmp r))) w ∧ o.guard = none ∧ o.dst = some d := by
  unfold isMv at h
  split at h
  · rename_i t d' h1 h2 h3
    split at h
    · rename_i e; subst e; injection h with h; subst h
      exact ⟨by unfold execOp; simp [h1], h2, h3⟩
    · cases h
  · rename_i t d' h1 h2 h3
    split at h
    · rename_i e; subst e; injection h with h; subst h
      exact ⟨by unfold execOp; simp [h1], h2, h3⟩
    · cases h
  · cases h

theorem wanted_none {o : Oper} {y : Nat → Option Bool} (h : o.guard = none) : Region.wanted o y = true := by unfold Region.wanted; rw [h]

/-- The handler. -/
theorem handler_sound (hm : P.follows .mixedOrders = true) {f : FuncId} {fn : Func} (hf : P.funcs[f]? = some fn) {H : HFunc} (hh : hFunc P fn = some H) {cv : List AV} {ccv : List Value} {x : AV} {cx : Value} {u u' : FrameMode}
    (hrec : ∀ (c₀ : Frame) (cs : List Frame), c₀.mode = u → (recoverD (c₀ :: cs) = some (cx, { c₀ with mode := u' } :: cs)) ∨ (recoverD (c₀ :: cs) = none ∧ cx = .nilIface ∧ u' = u))
    {K : Heap → Prop} {h : Heap} (hw : wpA P h.length H.body (hEnd K) (hEnv H cv x) h) {G : Snap} {I : Inj} {w : World} (hs : St G L I h w) (hfr : Fresh I h) (hcv : VRs G I cv ccv) (hx : VR G I x cx) :
    CallsD P f ccv.toArray u w fun e u'' w' => (∃ c, e = .returned c) ∧ u'' = u' ∧ ∃ h' G' I', K h' ∧ G.le G' ∧ (∀ i, i < h.length → I' i = I i) ∧ h.length ≤ h'.length ∧ St G' L I' h' w' ∧ Fresh I' h' := by
  unfold hFunc at hh
  split at hh
  · rename_i id ops rest hbody
    split at hh
    · rename_i o0 o1 hops
      split at hh
      · rename_i r hr
        split at hh
        · rename_i d b hd hb
          split at hh
          · cases hh
          · rename_i hnm
            injection hh with hh; subst hh
            simp only [Bool.or_eq_true, not_or, Bool.not_eq_true, Bool.not_eq_false', decide_eq_true_eq] at hnm
            have hres : fn.results.toList = [] := by simpa using hnm.1.2
            refine callsD_of_wpS hf hbody fun c₀ cs hc => ?_
            apply wpS_seq
            apply wpS_region
            have hsz : ops.size = 2 := by rw [← Array.length_toList, hops]; rfl
            have h0 : ops[0]? = some o0 := by rw [← Array.getElem?_toList, hops]; rfl
            have h1 : ops[1]? = some o1 := by rw [← Array.getElem?_toList, hops]; rfl
            rw [hsz]
            have hrange : List.range 2 = [0, 1] := rfl
            rw [hrange]
            let a0 : Act := { tmps := ccv.toArray ++ Array.replicate (fn.ntmps - ccv.toArray.size) undef, defers := [] }
            have p0 := isRec_spec (P := P) hr a0 w
            let a1 : Act := a0.put o0.dst cx
            have p1 := isMv_spec (P := P) hd a1 w
            let a2 : Act := a1.put o1.dst (a1.eval (.tmp r))
            -- the rest
            have hl := VRs_length hcv
            have e0 : EnvR G I (cv ++ List.replicate (fn.ntmps - cv.length) (.tup [])) a0.tmps := by
              unfold EnvR
              simp only [a0, Array.toList_append, Array.toList_replicate, List.size_toArray]
              rw [← hl]
              exact VRs_append hcv (VRs_rep _)
            have e1 : EnvR G I ((cv ++ List.replicate (fn.ntmps - cv.length) (AV.tup [])).set r x) a1.tmps := by
              have := e0.put (d := some r) hx
              simp only [a1, p0.2.2]; exact this
            have hrl : r < (cv ++ List.replicate (fn.ntmps - cv.length) (AV.tup [])).length := by
              rw [List.length_append, List.length_replicate]; have := hnm.2; omega
            have hxr : VR G I x (a1.eval (.tmp r)) := by
              obtain ⟨c, g1, g2⟩ := VRs_get e1 (i := r) (a := x) (by rw [List.getElem?_set]; simp only [if_true]; rw [if_pos hrl])
              rw [Array.getElem?_toList] at g1
              have : a1.eval (.tmp r) = c := by simp [Act.eval, Array.getD_eq_getD_getElem?, g1]
              rw [this]; exact g2
            have e2 : EnvR G I (hEnv ⟨fn.ntmps, r, d, b⟩ cv x) a2.tmps := by
              have := e1.put (d := some d) hxr
              simp only [a2, p1.2.2]; exact this
            have hdef : a2.defers = [] := by simp only [a2, a1, put_defers]; rfl
            have fin : rest.wpS P (bodyPostS P fn c₀ cs fun e u'' w' => (∃ c, e = .returned c) ∧ u'' = u' ∧ ∃ h' G' I', K h' ∧ G.le G' ∧ (∀ i, i < h.length → I' i = I i) ∧ h.length ≤ h'.length ∧ St G' L I' h' w' ∧ Fresh I' h')
                a2 ({ c₀ with mode := u' } :: cs) w := by
              apply wpS_of_wp
              refine wp_mono (wpA_sound (G0 := G) (L := L) (I0 := I) (n0 := h.length) (dfr := []) hm rest b (hEnd K) _ h G I a2 w hb hw (Snap.le_refl G) (fun _ _ => rfl) (Nat.le_refl _) hs hfr e2 hdef) ?_
              rintro e a' w' ⟨e', env', h', G', I', k1, k2, k3, k4, k5, k6, k7, k8, k9⟩
              have hr0 : (results fn a'.tmps).run P w' = .ok (.tuple #[]) w' := by
                unfold results
                have : fn.results = #[] := by rw [← Array.toArray_toList (xs := fn.results), hres]
                simp [this]
              have ok : K h' → a'.defers = [] ∧ ∃ u'', ({ c₀ with mode := u' } :: cs : List Frame) = { c₀ with mode := u'' } :: cs ∧ ∃ v, (results fn a'.tmps).run P w' = .ok v w' ∧
                  ((∃ c, Ending.returned v = .returned c) ∧ u'' = u' ∧ ∃ h' G' I', K h' ∧ G.le G' ∧ (∀ i, i < h.length → I' i = I i) ∧ h.length ≤ h'.length ∧ St G' L I' h' w' ∧ Fresh I' h') :=
                fun hk => ⟨k9, u', rfl, _, hr0, ⟨_, rfl⟩, rfl, h', G', I', hk, k3, k4, k7, k5, k6⟩
              cases e' with
              | normal => cases e <;> first | exact k2.elim | exact ok k1
              | ret => cases e <;> first | exact k2.elim | exact ok k1
              | exit id => exact k1.elim
              | panic v => exact k1.elim
            have go1 : ∀ cs', cs' = ({ c₀ with mode := u' } :: cs : List Frame) → wpOpsS P ops (Exit.thenS (rest.wpS P (bodyPostS P fn c₀ cs fun e u'' w' => (∃ c, e = .returned c) ∧ u'' = u' ∧ ∃ h' G' I', K h' ∧ G.le G' ∧ (∀ i, i < h.length → I' i = I i) ∧ h.length ≤ h'.length ∧ St G' L I' h' w' ∧ Fresh I' h')) (bodyPostS P fn c₀ cs fun e u'' w' => (∃ c, e = .returned c) ∧ u'' = u' ∧ ∃ h' G' I', K h' ∧ G.le G' ∧ (∀ i, i < h.length → I' i = I i) ∧ h.length ≤ h'.length ∧ St G' L I' h' w' ∧ Fresh I' h')) [1] a1 cs' w := by
              rintro cs' rfl
              simp only [wpOpsS, h1, wanted_none p1.2.1, if_true, p1.1, Oper.upon_value]
              exact fin
            have hrun : (execOp (Act.eval { tmps := ccv.toArray ++ Array.replicate (fn.ntmps - ccv.toArray.size) undef, defers := [] }) o0).run P w = .ok .recover w := p0.1
            unfold wpOpsS
            simp only [h0, wanted_none p0.2.1, if_true, hrun]
            rcases hrec c₀ cs hc with hq | ⟨hq, rfl, rfl⟩
            · simp only [hq]
              exact go1 _ rfl
            · simp only [hq]
              exact go1 (c₀ :: cs) (by rw [← hc])
        · cases hh
      · cases hh
    · cases hh
  · cases hh
end
end Go.AM

namespace Go.AM

/-- What holds where the deferred call is told. -/
def gN (P : Program) (t df : Nat) (caps : List RO) (post : RCode) (PQ : List AV → Post) (env : List AV) (h : Heap) : Prop :=
  t < env.length ∧ wpA P h.length post (PQ (caps.map (RO.ev env))) (env.set t (.fn df (caps.map (RO.ev env)))) h

section
variable {P : Program} {G0 : Snap} {L : Lk} {I0 : Inj} {n0 : Nat}

theorem CallsD.mono {f : FuncId} {args : Array Value} {u : FrameMode} {w : World} {R R' : Ending → FrameMode → World → Prop} (h : CallsD P f args u w R) (hr : ∀ e u w, R e u w → R' e u w) : CallsD P f args u w R' :=
  fun c cs hc => let ⟨e, u', w', fr, h1, h2⟩ := h c cs hc; ⟨e, u', w', fr, hr _ _ _ h1, h2⟩

theorem dRegion_spec {c : Code} {t f : Nat} {caps : List RO} (hc : dRegion P c = some (t, f, caps)) : ∃ id ops o0 o1, c = .region id ops false ∧ ops.toList = [o0, o1] ∧ cOper P ops o0 = some ⟨some t, none, .mkfn f caps⟩ ∧
    o1.guard = none ∧ o1.dst = none ∧ ∃ ats args, o1.op = .defer ⟨.value (.tmp t), args, ats⟩ ∧ args.size = 0 := by
  unfold dRegion at hc
  split at hc
  · rename_i id ops
    split at hc
    · rename_i o0 o1 hops
      split at hc
      · rename_i t0 f0 caps0 h0
        split at hc
        · rename_i t' args ats h1 h2 h3
          split at hc
          · rename_i hta
            obtain ⟨rfl, hsz⟩ := hta
            simp only [Option.some.injEq, Prod.mk.injEq] at hc
            obtain ⟨rfl, rfl, rfl⟩ := hc
            exact ⟨id, ops, o0, o1, rfl, hops, h0, h2, h3, ats, args, h1, hsz⟩
          · cases hc
        · cases hc
      · cases hc
    · cases hc
  · cases hc

theorem gCode_sound (hm : P.follows .mixedOrders = true) {PQ : List AV → Post} {Qpre : Post} {CQ : Exit → Act → World → Prop} {t df : Nat} {caps : List RO} {post : RCode}
    (hpreN : ∀ env h, Qpre .normal env h → gN P t df caps post PQ env h)
    (hpre : ∀ e a w, e ≠ .normal → Lift G0 L I0 n0 [] Qpre e a w → CQ e a w)
    (hpost : ∀ G I n cv vs e a w, G0.le G → (∀ i, i < n0 → I i = I0 i) → n0 ≤ n → (∀ i, n ≤ i → I i = none) → VRs G I cv vs → Lift G L I n [⟨.fn (.func df) vs.toArray, #[]⟩] (PQ cv) e a w → CQ e a w) :
    ∀ (c : Code) (pre : RCode) (env : List AV) (h : Heap) (G : Snap) (I : Inj) (a : Act) (w : World), gCode P c = some (pre, t, df, caps, post) →
      wpA P n0 pre Qpre env h → G0.le G → (∀ i, i < n0 → I i = I0 i) → n0 ≤ h.length → St G L I h w → Fresh I h → EnvR G I env a.tmps → a.defers = [] → c.wp P CQ a w := by
  intro c
  induction c with
  | seq x y ihx ihy =>
    intro pre env h G I a w hc hw hG hI hl hs hf he hd
    simp only [gCode] at hc
    split at hc
    · rename_i t' f' caps' hdr
      obtain ⟨cp, h1, h2⟩ := Option.map_some_inv hc
      simp only [Prod.mk.injEq] at h2
      obtain ⟨rfl, e2, e3, e4, rfl⟩ := h2
      have e2' := e2.symm; have e3' := e3.symm; have e4' := e4.symm
      clear e2 e3 e4
      subst e2'; subst e3'; subst e4'
      obtain ⟨htl, hw'⟩ := hpreN _ _ hw
      obtain ⟨id, ops, o0, o1, rfl, hops, c0, g1, d1, ats, args, hop1, hsz⟩ := dRegion_spec hdr
      obtain ⟨q1, q2, q3⟩ := cOper_inv c0
      have g0 : o0.guard = none := by
        cases hg : o0.guard with
        | none => rfl
        | some p => rw [hg] at q3; obtain ⟨d, _, h⟩ := q3; cases h
      apply wp_seq
      apply wp_region
      apply wpListOps
      rw [hops]
      unfold Go.wpList
      rw [wanted_none g0, if_pos rfl]
      left
      refine wpOp_sound (Q := fun _ _ _ => False) (cont := fun env' h' => env' = env.set t (.fn df (caps.map (RO.ev env))) ∧ h' = h) (r := ⟨some t, none, .mkfn df caps⟩) hs hf he q1 q2 (Nat.le_refl _) ?_ ?_ (fun _ v c h' w' G' I' hq => hq.elim)
      · unfold wpOp
        simp [ROp.run, okv, setD, Heap.upd]
      · rintro env' h' a' w' G' I' ⟨rfl, rfl⟩ k1 k2 k3 k4 k5 k6 k7
        unfold Go.wpList
        rw [wanted_none g1, if_pos rfl]
        left
        -- the closure's value
        have hget : (env.set t (AV.fn df (caps.map (RO.ev env))))[t]? = some (.fn df (caps.map (RO.ev env))) := by
          rw [List.getElem?_set]; simp only [if_true]; rw [if_pos htl]
        obtain ⟨cv, v1, v2⟩ := VRs_get k6 hget
        simp only [VR] at v2
        obtain ⟨vs, rfl, v3⟩ := v2
        rw [Array.getElem?_toList] at v1
        have hev : a'.eval (.tmp t) = .func (.func df) #[] vs.toArray := by simp [Act.eval, Array.getD_eq_getD_getElem?, v1]
        have hargs : args = #[] := Array.size_eq_zero_iff.1 hsz
        subst hargs
        have hrun : (execOp a'.eval o1).run P w' = .ok (.defer ⟨.fn (.func df) vs.toArray, #[]⟩) w' := by
          unfold execOp
          simp [hop1, resolve, hev, Deferred.ofValue]
        unfold Oper.wp
        rw [hrun, Oper.upon_defer]
        unfold Go.wpList
        rw [d1]
        have hd' : a'.defers = [] := by rw [k7, hd]
        rw [hd']
        simp only [Exit.then, Act.put]
        refine wp_mono (wpA_sound (G0 := G') (L := L) (I0 := I') (n0 := h'.length) (dfr := [⟨.fn (.func df) vs.toArray, #[]⟩]) hm y cp (PQ (caps.map (RO.ev env))) _ h' G' I' _ w' h1 hw' (Snap.le_refl _) (fun _ _ => rfl) (Nat.le_refl _) k5 k4 k6 rfl) ?_
        intro e a2 w2 hq
        exact hpost G' I' h'.length _ vs e a2 w2 (Snap.le_trans hG k1) (fun i hi => by rw [k2 i (by omega), hI i hi]) (Nat.le_trans hl k3) k4 v3 hq
    · rename_i hdr
      split at hc
      · rename_i ra pre' x' h1 h2
        simp only [Option.some.injEq, Prod.mk.injEq] at hc
        obtain ⟨rfl, rfl⟩ := hc
        apply wp_seq
        refine wp_mono (wpA_sound (G0 := G0) (L := L) (I0 := I0) (n0 := n0) (dfr := []) hm x ra _ env h G I a w h1 hw hG hI hl hs hf he hd) ?_
        rintro e a' w' hq
        obtain ⟨e', env', h', G', I', k1, k2, k3, k4, k5, k6, k7, k8, k9⟩ := hq
        cases e' with
        | normal =>
          obtain ⟨env1, h1', hwk, k1⟩ := k1
          obtain ⟨G1, I1, m1, m2, m3, m4, m5, m6⟩ := hwk G' L I' w' a'.tmps k5 k6 k7 k8
          cases e <;> first | exact k2.elim | exact ihy pre' env1 h1' G1 I1 a' w' h2 k1 (Snap.le_trans k3 m1) (fun i hi => by rw [m2 i hi, k4 i hi]) m3 m5 m4 m6 k9
        | exit id => cases e <;> first | exact k2.elim | exact hpre _ _ _ (by simp) ⟨.exit id, env', h', G', I', k1, k2, k3, k4, k5, k6, k7, k8, k9⟩
        | ret => cases e <;> first | exact k2.elim | exact hpre _ _ _ (by simp) ⟨.ret, env', h', G', I', k1, k2, k3, k4, k5, k6, k7, k8, k9⟩
        | panic v => cases e <;> first | exact k2.elim | exact hpre _ _ _ (by simp) ⟨.panic v, env', h', G', I', k1, k2, k3, k4, k5, k6, k7, k8, k9⟩
      · cases hc
  | _ => intro pre env h G I a w hc; simp only [gCode, reduceCtorEq] at hc

/-- Ahead of the deferred call's end. -/
def gPre (N : List AV → Heap → Prop) (res : List RRes) (R : Out → Heap → Prop) : Post := fun e env h => match e with
  | .normal => N env h
  | .ret => match resA res env h with
    | some v => R (.ret v) h
    | none => False
  | .panic v => R (.pan v) h
  | .exit _ => False

theorem callsA_guard (hm : P.follows .mixedOrders = true) {f : FuncId} {fn : Func} (hf : P.funcs[f]? = some fn) {g : GFunc} (hg : gFunc P fn = some g) {hfn : Func} (hhf : P.funcs[g.df]? = some hfn) {H : HFunc} (hh : hFunc P hfn = some H)
    {args : List AV} {h : Heap} {R : Out → Heap → Prop}
    (hw : wpA P h.length g.pre (gPre (gN P g.t g.df g.caps g.post fun cv => gLeave P H cv g.res R) g.res R) (args ++ List.replicate (g.ntmps - args.length) (.tup [])) h) : CallsA P f args h R := by
  unfold gFunc at hg
  split at hg
  · rename_i b rs hb hr
    split at hg
    · cases hg
    · rename_i hname
      obtain ⟨⟨pre, t, df, caps, post⟩, h1, rfl⟩ := Option.map_some_inv hg
      simp only at hw hhf
      have hhb : ∃ c, hfn.body = some c ∧ hfn.name ≠ "runtime.NumGoroutine" := by
        unfold hFunc at hh
        split at hh
        · rename_i id ops rest hb'
          split at hh
          · split at hh
            · split at hh
              · split at hh
                · cases hh
                · rename_i hn
                  simp only [Bool.or_eq_true, not_or] at hn
                  exact ⟨_, hb', by simpa using hn.1.1⟩
              · cases hh
            · cases hh
          · cases hh
        · cases hh
      refine ⟨fun as w => ?_, ?_⟩
      · unfold callFunc
        have hname' : fn.name ≠ "runtime.NumGoroutine" := by simpa using hname
        simp [hf, hb, hname']
      · intro G L I w cargs hs hfr hargs
        refine calls_of_wp_defers hf hb ?_
        have hl := VRs_length hargs
        have henv : EnvR G I (args ++ List.replicate (fn.ntmps - args.length) (.tup [])) (cargs.toArray ++ Array.replicate (fn.ntmps - cargs.toArray.size) undef) := by
          unfold EnvR
          simp only [Array.toList_append, Array.toList_replicate, List.size_toArray]
          rw [← hl]
          exact VRs_append hargs (VRs_rep _)
        refine gCode_sound (G0 := G) (L := L) (I0 := I) (n0 := h.length) hm (PQ := fun cv => gLeave P H cv rs R) (Qpre := gPre (gN P t df caps post fun cv => gLeave P H cv rs R) rs R) (fun env h hq => hq) ?_ ?_
          b pre _ h G I _ w h1 hw (Snap.le_refl G) (fun _ _ => rfl) (Nat.le_refl _) hs hfr henv rfl
        · rintro e a w' hne ⟨e', env', h', G', I', k1, k2, k3, k4, k5, k6, k7, k8, k9⟩
          cases e' with
          | normal => cases e <;> first | exact k2.elim | exact absurd rfl hne
          | exit id => exact k1.elim
          | ret =>
            cases e <;> first | exact k2.elim | skip
            simp only [gPre] at k1
            split at k1
            · rename_i v hv
              obtain ⟨c, q1, q2⟩ := resA_sound k5 k8 hr hv
              show Leaves P fn a.tmps _ a.defers .returning w'
              rw [k9]
              exact ⟨c, q1, G', I', .ret v, h', k1, k3, k4, k7, k6, k5, q2⟩
            · exact k1.elim
          | panic v =>
            cases e <;> first | exact k2.elim | skip
            rename_i chain
            show Leaves P fn a.tmps _ a.defers (.panicking chain) w'
            rw [k9]
            obtain ⟨c, q1, q2⟩ := k2
            exact ⟨G', I', .pan v, h', k1, k3, k4, k7, k6, k5, c, q1, q2⟩
        · rintro G1 I1 n cv vs e a w' hG1 hI1 hn hfn1 hcv ⟨e', env', h', G', I', k1, k2, k3, k4, k5, k6, k7, k8, k9⟩
          -- the deferred call
          have hinv : (invoke (.fn (.func df) vs.toArray) #[]).run P w' = .ok (.enter df vs.toArray) w' := by
            obtain ⟨c, hc1, hc2⟩ := hhb
            unfold invoke
            unfold callFunc
            simp [hhf, hc1, hc2]
          have hcv' : VRs G' I' cv vs := by
            refine VRs_mono k3 ?_ _ _ hcv
            intro i x hx
            by_cases hi : i < n
            · rw [k4 i hi]; exact hx
            · rw [hfn1 i (by omega)] at hx; cases hx
          -- after the handler
          have after : ∀ (h2 : Heap) (G2 : Snap) (I2 : Inj) (w2 : World), (∃ v, resA rs env' h2 = some v ∧ R (.ret v) h2) → G'.le G2 → (∀ i, i < h'.length → I2 i = I' i) → h'.length ≤ h2.length → St G2 L I2 h2 w2 → Fresh I2 h2 →
              ∃ v, (results fn a.tmps).run P w2 = .ok v w2 ∧ ∃ G'' I'' out h'', R out h'' ∧ G.le G'' ∧ (∀ i, i < h.length → I'' i = I i) ∧ h.length ≤ h''.length ∧ Fresh I'' h'' ∧ St G'' L I'' h'' w2 ∧ OutR G'' I'' out (.returned v) := by
            rintro h2 G2 I2 w2 ⟨v, hv, hR⟩ m1 m2 m3 m4 m5
            obtain ⟨c, q1, q2⟩ := resA_sound m4 (k8.mono m1 (le_of_agree k6 m2)) hr hv
            exact ⟨c, q1, G2, I2, .ret v, h2, hR, Snap.le_trans hG1 (Snap.le_trans k3 m1), fun i hi => by rw [m2 i (by omega), k4 i (by omega), hI1 i hi], by omega, m5, m4, q2⟩
          have back : wpA P h'.length H.body (hEnd fun h' => ∃ v, resA rs env' h' = some v ∧ R (.ret v) h') (hEnv H cv .nilif) h' → Leaves P fn a.tmps (fun e w' => ∃ G' I' out h', R out h' ∧ G.le G' ∧ (∀ i, i < h.length → I' i = I i) ∧ h.length ≤ h'.length ∧ Fresh I' h' ∧ St G' L I' h' w' ∧ OutR G' I' out e) a.defers .returning w' := by
            intro hwp
            rw [k9]
            refine ⟨by simp, _, _, df, vs.toArray, rfl, hinv, ?_⟩
            refine (handler_sound (u := .returning) (u' := .returning) (cx := .nilIface) (x := .nilif) hm hhf hh (fun c₀ cs hc => .inr ⟨by simp [recoverD, hc], rfl, rfl⟩) hwp k5 k6 hcv' (by simp [VR])).mono ?_
            rintro e u w2 ⟨⟨c, rfl⟩, rfl, h2, G2, I2, hK, m1, m2, m3, m4, m5⟩
            exact after h2 G2 I2 w2 hK m1 m2 m3 m4 m5
          cases e' with
          | normal =>
            cases e <;> first | exact k2.elim | exact back k1
          | ret =>
            cases e <;> first | exact k2.elim | exact back k1
          | exit id => exact k1.elim
          | panic v =>
            cases e <;> first | exact k2.elim | skip
            obtain ⟨c, rfl, q2⟩ := k2
            show Leaves P fn a.tmps _ a.defers _ w'
            rw [k9]
            refine ⟨by simp, _, _, df, vs.toArray, rfl, hinv, ?_⟩
            refine (handler_sound (u := .panicking [{ v := c, recovered := false }]) (u' := .panicking [{ v := c, recovered := true }]) (cx := c) (x := v) hm hhf hh (fun c₀ cs hc => .inl (by simp [recoverD, hc])) k1 k5 k6 hcv' q2).mono ?_
            rintro e u w2 ⟨⟨c, rfl⟩, rfl, h2, G2, I2, hK, m1, m2, m3, m4, m5⟩
            exact after h2 G2 I2 w2 hK m1 m2 m3 m4 m5
  · cases hg
end
end Go.AM

namespace Go.AM

/-- A function as a closed run sees it. -/
inductive XF where
  | fn (rf : RFunc)
  | guard (g : GFunc) (H : HFunc)

def xRet (res : List RRes) (env : List AV) (h : Heap) (tc : List Nat) : Option (Out × Heap × List Nat) :=
  match resA res env h with
  | some v => some (.ret v, h, tc)
  | none => none

/-- The end of a function, by its results. -/
def xEnd (res : List RRes) : XRes → Option (Out × Heap × List Nat)
  | some (.normal, env, h, tc) => xRet res env h tc
  | some (.ret, env, h, tc) => xRet res env h tc
  | some (.panic v, _, h, tc) => some (.pan v, h, tc)
  | _ => none

/-- A handler. -/
def xHand (call : XCall) (lo n : Nat) (H : HFunc) (cv : List AV) (x : AV) (res : List RRes) (env : List AV) (h : Heap) (tc : List Nat) : Option (Out × Heap × List Nat) :=
  match xCode call lo n H.body (hEnv H cv x) h tc with
  | some (.normal, _, h', tc') => xRet res env h' tc'
  | some (.ret, _, h', tc') => xRet res env h' tc'
  | _ => none

/-- The callee's garbage is forgotten. -/
def xTrim (h : Heap) : Option (Out × Heap × List Nat) → Option (Out × Heap × List Nat)
  | some (.ret v, h', []) => if v.pure then some (.ret v, h, []) else some (.ret v, h', [])
  | r => r

def xBody (call : XCall) (n : Nat) (x : XF) (args : List AV) (h : Heap) : Option (Out × Heap × List Nat) :=
  match x with
  | .fn rf => xEnd rf.res (xCode call h.length n rf.body (args ++ List.replicate (rf.ntmps - args.length) (.tup [])) h [])
  | .guard g H => match xCode call h.length n g.pre (args ++ List.replicate (g.ntmps - args.length) (.tup [])) h [] with
    | some (.normal, env, h1, tc1) => if g.t < env.length then
        match xCode call h.length n g.post (env.set g.t (.fn g.df (g.caps.map (RO.ev env)))) h1 tc1 with
        | some (.normal, env', h2, tc2) => xHand call h.length n H (g.caps.map (RO.ev env)) .nilif g.res env' h2 tc2
        | some (.ret, env', h2, tc2) => xHand call h.length n H (g.caps.map (RO.ev env)) .nilif g.res env' h2 tc2
        | some (.panic v, env', h2, tc2) => xHand call h.length n H (g.caps.map (RO.ev env)) v g.res env' h2 tc2
        | _ => none
      else none
    | some (.ret, env, h1, tc1) => xRet g.res env h1 tc1
    | some (.panic v, _, h1, tc1) => some (.pan v, h1, tc1)
    | _ => none

def xFun (tab : Nat → Option XF) : Nat → XCall
  | 0 => fun _ _ _ => none
  | n + 1 => fun f args h => match tab f with
    | some x => xTrim h (xBody (xFun tab n) n x args h)
    | none => none

section
variable {P : Program} {lo : Nat}

/-- What a table says of a program's functions. -/
def XF.OK (P : Program) (f : Nat) : XF → Prop
  | .fn rf => ∃ fn, P.funcs[f]? = some fn ∧ kFunc P fn = some rf
  | .guard g H => ∃ fn hfn, P.funcs[f]? = some fn ∧ gFunc P fn = some g ∧ P.funcs[g.df]? = some hfn ∧ hFunc P hfn = some H

theorem xRet_spec {res : List RRes} {env : List AV} {h h' : Heap} {tc tc' : List Nat} {out : Out} (hx : xRet res env h tc = some (out, h', tc')) :
    h' = h ∧ tc' = tc ∧ ∃ v, resA res env h = some v ∧ out = .ret v := by
  unfold xRet at hx
  split at hx
  · rename_i v hv
    simp only [Option.some.injEq, Prod.mk.injEq] at hx
    obtain ⟨rfl, rfl, rfl⟩ := hx
    exact ⟨rfl, rfl, v, hv, rfl⟩
  · cases hx

theorem trim_sound {f : Nat} {args : List AV} {h h' : Heap} {v : AV} (hv : v.pure = true) (hc : CallsA P f args h (fun o k => o = .ret v ∧ k = h')) (hk : Kept h.length h [] h' []) (hb : heapBnd h.length h = true) :
    CallsA P f args h (fun o k => o = .ret v ∧ k = h) := by
  refine ⟨hc.1, fun G L I w cargs hs hf ha => (hc.2 G L I w cargs hs hf ha).mono ?_⟩
  rintro e w' ⟨G', I', out, h2, ⟨rfl, rfl⟩, g1, g2, g3, g4, g5, g6⟩
  have hat : ∀ p k, h.at p = some k → h2.at p = some k := fun p k hp => by rw [hk.at_ p (at_lt hp) (by simp)]; exact hp
  refine ⟨G', I, .ret v, h, ⟨rfl, rfl⟩, g1, fun _ _ => rfl, Nat.le_refl _, hf, ⟨g5.g, g5.l, g5.dis, fun id k hid => ?_, fun i j ki kj b x x' hi hj hxi hxj => ?_, g5.out⟩, ?_⟩
  · have hlt := at_lt hid
    rcases g5.own id k (hat _ _ hid) with ⟨e1, e2⟩ | ⟨b, base, ext, o, k1, k2, k3, k4, k5⟩
    · exact .inl ⟨e1, by rw [← g2 id hlt]; exact e2⟩
    · exact .inr ⟨b, base, ext, o, by rw [← g2 id hlt]; exact k1, k2, k3, k4, BR_bnd (fun i hi => (g2 i hi).symm) (heapBnd_at hb hid) k5⟩
  · rw [← g2 i (at_lt hi)] at hxi
    rw [← g2 j (at_lt hj)] at hxj
    exact g5.inj i j ki kj b x x' (hat _ _ hi) (hat _ _ hj) hxi hxj
  · cases e with
    | returned c => exact VR_pure v c hv g6
    | panicked ch => exact g6.elim
    | outgrown => exact g6.elim

theorem xBody_sound (hm : P.follows .mixedOrders = true) {call : XCall} (ihc : CallOK P call) {n : Nat} {f : Nat} {x : XF} (hok : x.OK P f) {args : List AV} {h : Heap} {out : Out} {h' : Heap} {tc : List Nat} (hb : heapBnd h.length h = true)
    (hx : xBody call n x args h = some (out, h', tc)) : CallsA P f args h (fun o k => o = out ∧ k = h') ∧ Kept h.length h [] h' tc := by
  have hlo : h.length ≤ h.length := Nat.le_refl _
  unfold xBody at hx
  cases x with
  | fn rf =>
    obtain ⟨fn, hf, hk⟩ := hok
    simp only at hx
    unfold xEnd at hx
    split at hx
    · rename_i env' h1 tc1 hr
      obtain ⟨k1, k2⟩ := xCode_sound ihc n rf.body _ _ _ _ _ _ _ hlo hb hr
      obtain ⟨rfl, rfl, v, hv, rfl⟩ := xRet_spec hx
      exact ⟨callsA_of_wpA hm hf hk (k2 _ _ ⟨_, _, Wk.refl, by simp [hv]⟩), k1⟩
    · rename_i env' h1 tc1 hr
      obtain ⟨k1, k2⟩ := xCode_sound ihc n rf.body _ _ _ _ _ _ _ hlo hb hr
      obtain ⟨rfl, rfl, v, hv, rfl⟩ := xRet_spec hx
      exact ⟨callsA_of_wpA hm hf hk (k2 _ _ ⟨_, _, Wk.refl, by simp [hv]⟩), k1⟩
    · rename_i v env' h1 tc1 hr
      obtain ⟨k1, k2⟩ := xCode_sound ihc n rf.body _ _ _ _ _ _ _ hlo hb hr
      simp only [Option.some.injEq, Prod.mk.injEq] at hx
      obtain ⟨rfl, rfl, rfl⟩ := hx
      exact ⟨callsA_of_wpA hm hf hk (k2 _ _ (by simp [retA])), k1⟩
    · cases hx
  | guard g H =>
    obtain ⟨fn, hfn, hf, hg, hhf, hh⟩ := hok
    simp only at hx
    split at hx
    · rename_i env h1 tc1 hr
      obtain ⟨k1, k2⟩ := xCode_sound ihc n g.pre _ _ _ _ _ _ _ hlo hb hr
      split at hx
      · rename_i hlt
        have hand : ∀ x env' h2 tc2, Kept h.length h1 tc1 h2 tc2 → xHand call h.length n H (g.caps.map (RO.ev env)) x g.res env' h2 tc2 = some (out, h', tc) →
            wpA P h2.length H.body (hEnd fun hx => ∃ v, resA g.res env' hx = some v ∧ (fun (o : Out) (k : Heap) => o = out ∧ k = h') (.ret v) hx) (hEnv H (g.caps.map (RO.ev env)) x) h2 ∧ Kept h.length h2 tc2 h' tc := by
          intro x env' h2 tc2 hkk hxh
          unfold xHand at hxh
          split at hxh
          · rename_i e3 h3 tc3 hr3
            obtain ⟨k5, k6⟩ := xCode_sound ihc n H.body _ _ _ _ _ _ _ (Nat.le_trans k1.len hkk.len) hkk.bnd hr3
            obtain ⟨rfl, rfl, v, hv, rfl⟩ := xRet_spec hxh
            exact ⟨k6 _ (hEnd _) (show ∃ v, _ from ⟨v, hv, rfl, rfl⟩), k5⟩
          · rename_i e3 h3 tc3 hr3
            obtain ⟨k5, k6⟩ := xCode_sound ihc n H.body _ _ _ _ _ _ _ (Nat.le_trans k1.len hkk.len) hkk.bnd hr3
            obtain ⟨rfl, rfl, v, hv, rfl⟩ := xRet_spec hxh
            exact ⟨k6 _ (hEnd _) (show ∃ v, _ from ⟨v, hv, rfl, rfl⟩), k5⟩
          · cases hxh
        split at hx
        · rename_i env' h2 tc2 hr2
          obtain ⟨k3, k4⟩ := xCode_sound ihc n g.post _ _ _ _ _ _ _ k1.len k1.bnd hr2
          obtain ⟨g1, g2⟩ := hand _ _ _ _ k3 hx
          exact ⟨callsA_guard hm hf hg hhf hh (k2 _ _ ⟨hlt, k4 _ _ g1⟩), k1.trans (k3.trans g2)⟩
        · rename_i env' h2 tc2 hr2
          obtain ⟨k3, k4⟩ := xCode_sound ihc n g.post _ _ _ _ _ _ _ k1.len k1.bnd hr2
          obtain ⟨g1, g2⟩ := hand _ _ _ _ k3 hx
          exact ⟨callsA_guard hm hf hg hhf hh (k2 _ _ ⟨hlt, k4 _ _ g1⟩), k1.trans (k3.trans g2)⟩
        · rename_i v env' h2 tc2 hr2
          obtain ⟨k3, k4⟩ := xCode_sound ihc n g.post _ _ _ _ _ _ _ k1.len k1.bnd hr2
          obtain ⟨g1, g2⟩ := hand _ _ _ _ k3 hx
          exact ⟨callsA_guard hm hf hg hhf hh (k2 _ _ ⟨hlt, k4 _ _ g1⟩), k1.trans (k3.trans g2)⟩
        · cases hx
      · cases hx
    · rename_i env' h1 tc1 hr
      obtain ⟨k1, k2⟩ := xCode_sound ihc n g.pre _ _ _ _ _ _ _ hlo hb hr
      obtain ⟨rfl, rfl, v, hv, rfl⟩ := xRet_spec hx
      exact ⟨callsA_guard hm hf hg hhf hh (k2 _ _ (by simp [gPre, hv])), k1⟩
    · rename_i v env' h1 tc1 hr
      obtain ⟨k1, k2⟩ := xCode_sound ihc n g.pre _ _ _ _ _ _ _ hlo hb hr
      simp only [Option.some.injEq, Prod.mk.injEq] at hx
      obtain ⟨rfl, rfl, rfl⟩ := hx
      exact ⟨callsA_guard hm hf hg hhf hh (k2 _ _ (by simp [gPre])), k1⟩
    · cases hx

theorem xFun_sound (hm : P.follows .mixedOrders = true) {tab : Nat → Option XF} (htab : ∀ f x, tab f = some x → x.OK P f) : ∀ n, CallOK P (xFun tab n)
  | 0 => by intro f args h out h' tc _ hx; cases hx
  | n + 1 => by
    intro f args h out h' tc hb hx
    have ihc := xFun_sound hm htab n
    simp only [xFun] at hx
    split at hx
    · rename_i x ht
      unfold xTrim at hx
      split at hx
      · rename_i v h2 hr
        obtain ⟨c1, c2⟩ := xBody_sound hm ihc (htab f x ht) hb hr
        split at hx
        · rename_i hp
          simp only [Option.some.injEq, Prod.mk.injEq] at hx
          obtain ⟨rfl, rfl, rfl⟩ := hx
          exact ⟨trim_sound hp c1 c2 hb, Kept.refl hb⟩
        · simp only [Option.some.injEq, Prod.mk.injEq] at hx
          obtain ⟨rfl, rfl, rfl⟩ := hx
          exact ⟨c1, c2⟩
      · exact xBody_sound hm ihc (htab f x ht) hb hx
    · cases hx
end
end Go.AM
