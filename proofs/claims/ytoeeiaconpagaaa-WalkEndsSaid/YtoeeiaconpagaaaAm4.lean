/- Quick closed runs, and the layer in which functions are walked, with ghost steps. No condition. -/
import Derived.Test.YtoeeiaconpagaaaAm3
set_option linter.unusedVariables false
set_option linter.unusedSimpArgs false
set_option linter.unnecessarySimpa false
namespace Go.AM

/-! A quicker closed run: slots and blocks as lists of what was written, the last first. -/

def fillG (ev : RO → AV) : List AV → List (Nat × Nat × RO) → Option (Bool × List AV)
  | cs, [] => some (true, cs)
  | cs, (off, size, x) :: ps =>
    let v := ev x
    if v.cells.length = size ∧ off + size ≤ cs.length then
      match fillG ev (overwrite cs off v.cells) ps with
      | some (b, r) => some (v.val && b, r)
      | none => none
    else none

def sliceG (hat : Nat → Option Blk) (sz : Nat) : AV → Option (Nat × List AV)
  | .nils => some (0, [])
  | .emp => some (0, [])
  | .lit sz' es => if sz' = sz then some (es.length, es.flatMap AV.cells) else none
  | .slice id off len sz' =>
    if sz' = sz then
      match hat id with
      | some (.cells cs) => if off + len * sz ≤ cs.length then some (len, (cs.drop off).take (len * sz)) else none
      | _ => none
    else none
  | _ => none

def ROp.runG (ev : RO → AV) (hat : Nat → Option Blk) (n : Nat) : ROp → Res
  | .mv x => okv (ev x)
  | .pick c a b => match ev c with
    | .bool t => match ev a, ev b with
      | .bool p, .bool q => okv (.bool (bif t then p else q))
      | p, q => okv (bif t then p else q)
    | _ => none
  | .alloc z => some (z.all AV.one, .ptr n 0, [(n, some (.cells z))])
  | .box x => let v := ev x; some (v.val, .ptr n 0, [(n, some (.cells v.cells))])
  | .build z ps => match fillG ev z ps with
    | some (b, cs) => oki b (.agg cs)
    | none => none
  | .bslice sz ln z ps => match fillG ev ((List.replicate ln z).flatten) (ps.map fun (i, x) => (i * sz, sz, x)) with
    | some (b, cs) => some (b && z.all AV.one, .slice n 0 ln sz, [(n, some (.cells cs))])
    | none => none
  | .load ag a => match ev a with
    | .ptr id off => match hat id with
      | some (.cells cs) => match part ag cs off with | some v => okv v | none => none
      | _ => none
    | .vptr cs off => match part ag cs off with | some v => okv v | none => none
    | _ => none
  | .store n a x => match ev a with
    | .ptr id off => match hat id with
      | some (.cells cs) =>
        let v := ev x
        if v.cells.length = n ∧ off + n ≤ cs.length then some (v.val, .tup [], [(id, some (.cells (overwrite cs off v.cells)))]) else none
      | _ => none
    | _ => none
  | .faddr off a => match ev a with
    | .ptr id o => okv (.ptr id (o + off))
    | .vptr cs o => okv (.vptr cs (o + off))
    | _ => none
  | .fld ag off x => match ev x with
    | .agg cs => match part ag cs off with | some v => okv v | none => none
    | _ => none
  | .iaS sz x i => match ev x, ev i with
    | .lit sz' es, .int _ k => if sz' = sz then oki (decide (0 ≤ k ∧ k < es.length)) (.vptr (es.getD k.toNat .undef).cells 0) else none
    | .slice id off ln sz', .int _ k => if sz' = sz then oki (decide (0 ≤ k ∧ k < ln)) (.ptr id (off + k.toNat * sz)) else none
    | _, _ => none
  | .iaA ln sz x i => match ev x, ev i with
    | .ptr id off, .int _ k => oki (decide (0 ≤ k ∧ k < ln)) (.ptr id (off + k.toNat * sz))
    | .vptr cs off, .int _ k => oki (decide (0 ≤ k ∧ k < ln)) (.vptr cs (off + k.toNat * sz))
    | _, _ => none
  | .ixA ln sz ag x i => match ev x, ev i with
    | .agg cs, .int _ k => match part ag cs (k.toNat * sz) with
      | some v => oki (decide (0 ≤ k ∧ k < ln)) v
      | none => none
    | _, _ => none
  | .ixS x i => match ev x, ev i with
    | .str s, .int _ k => oki (decide (0 ≤ k ∧ k < s.size)) (.int .u8 ((s.data.toList.getD k.toNat 0).toNat))
    | _, _ => none
  | .bin op x y => binA op (ev x) (ev y)
  | .eq neg ag x y => match AV.eqv ag (ev x) (ev y) with
    | some b => okv (.bool (if neg then !b else b))
    | none => none
  | .un op x => match op, ev x with
    | .neg, .int k a => okv (.int k (k.wrap (0 - a)))
    | .not, .bool b => okv (.bool (!b))
    | _, _ => none
  | .conv k x => match ev x with
    | .int _ a => okv (.int k (k.wrap a))
    | _ => none
  | .slc sz x lo hi => match ev x with
    | .lit sz' es => if sz' = sz then
        match (lo.map (ev)).getD (.int .i64 0), (hi.map (ev)).getD (.int .i64 es.length) with
        | .int _ l, .int _ g => oki (decide (0 ≤ l ∧ l ≤ g ∧ g ≤ es.length)) (.lit sz ((es.drop l.toNat).take (g.toNat - l.toNat)))
        | _, _ => none
      else none
    | .slice id off ln sz' => if sz' = sz then
        match (lo.map (ev)).getD (.int .i64 0), (hi.map (ev)).getD (.int .i64 ln) with
        | .int _ l, .int _ g => oki (decide (0 ≤ l ∧ l ≤ g ∧ g ≤ ln)) (.slice id (off + l.toNat * sz) (g.toNat - l.toNat) sz)
        | _, _ => none
      else none
    | .nils => match (lo.map (ev)).getD (.int .i64 0), (hi.map (ev)).getD (.int .i64 0) with
      | .int _ l, .int _ g => oki (decide (l = 0 ∧ g = 0)) .nils
      | _, _ => none
    | _ => none
  | .slcS x lo hi => match ev x with
    | .str s => match (lo.map (ev)).getD (.int .i64 0), (hi.map (ev)).getD (.int .i64 s.size) with
      | .int _ l, .int _ g => oki (decide (0 ≤ l ∧ l ≤ g ∧ g ≤ s.size)) (.str (s.extract l.toNat g.toNat))
      | _, _ => none
    | _ => none
  | .slcA m sz x => match ev x with
    | .ptr id off => match hat id with
      | some (.cells cs) => oki (decide (off + m * sz ≤ cs.length)) (.slice id off m sz)
      | _ => none
    | _ => none
  | .isnil k neg x => match k, ev x with
    | 1, .nils => okv (.bool (!neg))
    | 1, .lit _ (_ :: _) => okv (.bool neg)
    | 1, .slice _ _ (_ + 1) _ => okv (.bool neg)
    | 2, .nilmap => okv (.bool (!neg))
    | 2, .mapr _ => okv (.bool neg)
    | 3, .nilp => okv (.bool (!neg))
    | 3, .ptr _ _ => okv (.bool neg)
    | 3, .vptr _ _ => okv (.bool neg)
    | 4, .nilif => okv (.bool (!neg))
    | 4, .iface _ _ => okv (.bool neg)
    | 5, .nilfn => okv (.bool (!neg))
    | 5, .fn _ _ => okv (.bool neg)
    | _, _ => none
  | .clr sz z x => match ev x with
    | .nils => okv (.tup [])
    | .emp => okv (.tup [])
    | .slice id off ln sz' => if sz' = sz then
        match hat id with
        | some (.cells cs) => if off + ln * sz ≤ cs.length ∧ z.length = sz then
            some (z.all AV.one, .tup [], [(id, some (.cells (overwrite cs off ((List.replicate ln z).flatten))))]) else none
        | _ => none
      else none
    | _ => none
  | .nilck x => match ev x with
    | .ptr id off => okv (.ptr id off)
    | .vptr cs off => okv (.vptr cs off)
    | .fn f c => okv (.fn f c)
    | _ => none
  | .ext x i => match ev x with
    | .tup vs => match vs[i]? with | some v => okv v | none => none
    | _ => none
  | .mkfn f caps => okv (.fn f (caps.map (ev)))
  | .len k x => match k, ev x with
    | 0, .str s => okv (.int .i64 s.size)
    | 1, .nils => okv (.int .i64 0)
    | 1, .emp => okv (.int .i64 0)
    | 1, .lit _ es => okv (.int .i64 es.length)
    | 1, .slice _ _ ln _ => okv (.int .i64 ln)
    | 2, .nilmap => okv (.int .i64 0)
    | 2, .mapr id => match hat id with
      | some (.map es) => okv (.int .i64 es.length)
      | _ => none
    | _, _ => none
  | .app sz bytes s x =>
    match sliceG hat sz (ev x) with
    | none => none
    | some (m, news) =>
      match ev s with
      | .nils => if m = 0 then okv .nils else some (decide (m * bytes ≤ 140737488355328), .slice n 0 m sz, [(n, some (.cells news))])
      | .emp => if m = 0 then okv .emp else some (decide (m * bytes ≤ 140737488355328), .slice n 0 m sz, [(n, some (.cells news))])
      | .slice id off ln sz' =>
        if sz' = sz then
          match hat id with
          | some (.cells cs) =>
            if off + ln * sz ≤ cs.length then
              some (decide ((ln + m) * bytes ≤ 140737488355328), .slice n 0 (ln + m) sz, [(id, none), (n, some (.cells ((cs.drop off).take (ln * sz) ++ news)))])
            else none
          | _ => none
        else none
      | _ => none
  | .mm mx x y => match ev x, ev y with
    | .int k a, .int k' b => if k = k' then okv (.int k (if mx then (if b > a then b else a) else (if b < a then b else a))) else none
    | _, _ => none
  | .mkslice sz bytes z l c => match ev l, ev c with
    | .int .i64 a, .int .i64 b => if a = b then
        some (decide (0 ≤ a ∧ a * bytes ≤ 140737488355328) && z.all AV.one, .slice n 0 a.toNat sz, [(n, some (.cells ((List.replicate a.toNat z).flatten)))])
      else none
    | _, _ => none
  | .mkmap => some (true, .mapr n, [(n, some (.map []))])
  | .look ag z ok m k =>
    let es : Option (List (AV × AV)) := match ev m with
      | .nilmap => some []
      | .mapr id => match hat id with
        | some (.map es) => some es
        | _ => none
      | _ => none
    match es with
    | some es => match findKey ag es (ev k) with
      | some (some (_, v)) => oki (keyB ag (ev k)) (if ok then .tup [v, .bool true] else v)
      | some none => oki (keyB ag (ev k)) (if ok then .tup [z, .bool false] else z)
      | none => none
    | none => none
  | .mupd ag m k v => match ev m with
    | .mapr id => match hat id with
      | some (.map es) => match findKey ag es (ev k) with
        | some (some (i, _)) => some (keyB ag (ev k) && (ev v).val, .tup [], [(id, some (.map (es.set i (((es.map (·.1)).getD i .undef), ev v))))])
        | some none => some (keyB ag (ev k) && (ev v).val, .tup [], [(id, some (.map (es ++ [(ev k, ev v)])))])
        | none => none
      | _ => none
    | _ => none
  | .mkif t x => okv (.iface t (ev x))
  | .tassert t z ok x => match ev x with
    | .iface u v => if u = t then okv (if ok then .tup [v, .bool true] else v) else if ok then okv (.tup [z, .bool false]) else none
    | .nilif => if ok then okv (.tup [z, .bool false]) else none
    | _ => none
  | .call _ _ => none
  | .panic _ => none


theorem fillG_eq (env : List AV) : ∀ (ps : List (Nat × Nat × RO)) (cs : List AV), fillG (RO.ev env) cs ps = fillA env cs ps
  | [], cs => rfl
  | (off, size, x) :: ps, cs => by simp only [fillG, fillA, fillG_eq env ps] <;> rfl

theorem sliceG_eq (h : Heap) (sz : Nat) (a : AV) : sliceG h.at sz a = sliceCells h sz a := by
  cases a <;> rfl

theorem runG_eq (env : List AV) (h : Heap) (n : Nat) (r : ROp) : r.runG (RO.ev env) h.at n = r.run env h n := by
  cases r <;> simp only [ROp.runG, ROp.run, fillG_eq, sliceG_eq] <;> rfl

end Go.AM

namespace Go.AM

abbrev AEnv := List (Nat × AV)
structure AHeap where
  len : Nat
  bs : List (Nat × Option Blk)

def lookE : AEnv → Nat → AV
  | [], _ => .undef
  | (k, v) :: te, t => bif Nat.beq k t then v else lookE te t
def lookB : List (Nat × Option Blk) → Nat → Option Blk
  | [], _ => none
  | (k, v) :: bs, t => bif Nat.beq k t then v else lookB bs t

def evF (te : AEnv) : RO → AV
  | .t n => lookE te n
  | .c v => v

def updF : Upd → AHeap → AHeap
  | [], th => th
  | (p, k) :: u, th => updF u ⟨bif Nat.blt p th.len then th.len else p + 1, (p, k) :: th.bs⟩

def setF (te : AEnv) (d : Option Nat) (v : AV) : AEnv := match d with
  | some d => (d, v) :: te
  | none => te
def inF (nt : Nat) (d : Option Nat) : Bool := match d with
  | some d => Nat.blt d nt
  | none => true

structure RepE (nt : Nat) (te : AEnv) (env : List AV) : Prop where
  len : env.length = nt
  get : ∀ t, lookE te t = env.getD t .undef
structure RepH (th : AHeap) (h : Heap) : Prop where
  len : th.len = h.length
  get : ∀ p, lookB th.bs p = h.at p

theorem RepE.ev {nt : Nat} {te : AEnv} {env : List AV} (r : RepE nt te env) : evF te = RO.ev env := by
  funext x; cases x with
  | t n => exact r.get n
  | c v => rfl

theorem RepH.hat {th : AHeap} {h : Heap} (r : RepH th h) : lookB th.bs = h.at := funext r.get

theorem RepE.set {nt : Nat} {te : AEnv} {env : List AV} (r : RepE nt te env) {d : Option Nat} (hd : inF nt d = true) (v : AV) : RepE nt (setF te d v) (setD env d v) := by
  cases d with
  | none => exact r
  | some d =>
    have hlt : d < env.length := by
      simp only [inF, Nat.blt_eq] at hd
      rw [r.len]; exact hd
    refine ⟨by rw [setD_length]; exact r.len, fun t => ?_⟩
    simp only [setF, lookE]
    by_cases e : d = t
    · subst e
      rw [setD_getD env (some d) v d hlt]
      simp
    · have hb : Nat.beq d t = false := by
        cases h : Nat.beq d t with
        | false => rfl
        | true => exact absurd (Nat.eq_of_beq_eq_true h) e
      rw [hb, cond_false, r.get]
      simp [setD, List.getD, List.getElem?_set, e]

theorem RepH.upd : ∀ (u : Upd) {th : AHeap} {h : Heap}, RepH th h → RepH (updF u th) (h.upd u)
  | [], _, _, r => r
  | (p, k) :: u, th, h, r => by
    simp only [updF, Heap.upd]
    refine RepH.upd u ⟨?_, fun q => ?_⟩
    · simp only [Heap.length_set]
      rw [r.len]
      cases hb : Nat.blt p h.length with
      | true => simp only [Nat.blt_eq] at hb; simp only [cond_true]; omega
      | false =>
        have : ¬ p < h.length := fun hh => by rw [← Nat.blt_eq] at hh; rw [hb] at hh; cases hh
        simp only [cond_false]; omega
    · simp only [lookB]
      rw [Heap.at_set]
      by_cases e : p = q
      · subst e; simp
      · have hb : Nat.beq p q = false := by
          cases h : Nat.beq p q with
          | false => rfl
          | true => exact absurd (Nat.eq_of_beq_eq_true h) e
        rw [hb, cond_false, if_neg (fun x => e x.symm)]
        exact r.get q

/-! The machine. -/

abbrev FCall := Nat → List AV → AHeap → Option (Out × AHeap × List Nat)
abbrev FRes := Option (AExit × AEnv × AHeap × List Nat)

def guardF (g : Option (Nat × Bool)) (te : AEnv) : Option Bool :=
  match g with
  | none => some true
  | some (d, want) => match lookE te d with
    | .bool b => some (b == want)
    | .tup _ => some false
    | _ => none

theorem guardF_eq {nt : Nat} {te : AEnv} {env : List AV} (r : RepE nt te env) (g : Option (Nat × Bool)) : guardF g te = xGuard g env := by
  cases g with
  | none => rfl
  | some p => obtain ⟨d, want⟩ := p; simp only [guardF, xGuard, r.get]; rfl

def opsF (call : FCall) (nt lo : Nat) : List ROper → AEnv → AHeap → List Nat → FRes
  | [], te, th, tc => some (.normal, te, th, tc)
  | o :: os, te, th, tc => bif inF nt o.dst then
    match guardF o.guard te with
    | some true => match o.op with
      | .call f as => match evF te f with
        | .fn k caps => match call k (as.map (evF te) ++ caps) th with
          | some (.ret v, th', tc') => opsF call nt lo os (setF te o.dst v) th' (below lo tc' tc)
          | some (.pan v, th', tc') => some (.panic v, te, th', below lo tc' tc)
          | none => none
        | _ => none
      | .panic x => match evF te x with
        | .iface t v => some (.panic (.iface t v), te, th, tc)
        | _ => none
      | r => match r.runG (evF te) (lookB th.bs) th.len with
        | some (true, v, u) => bif updB (updF u th).len u then opsF call nt lo os (setF te o.dst v) (updF u th) (below lo (u.map (·.1)) tc) else none
        | _ => none
    | some false => opsF call nt lo os (setF te o.dst (.tup [])) th tc
    | none => none
    else none

theorem opsF_sim {call : FCall} {xcall : XCall} (hcall : ∀ f args th h out th' tc, RepH th h → call f args th = some (out, th', tc) → ∃ h', RepH th' h' ∧ xcall f args h = some (out, h', tc)) {nt lo : Nat} :
    ∀ (os : List ROper) (te : AEnv) (th : AHeap) (tc : List Nat) (env : List AV) (h : Heap) (e : AExit) (te' : AEnv) (th' : AHeap) (tc' : List Nat), RepE nt te env → RepH th h →
      opsF call nt lo os te th tc = some (e, te', th', tc') → ∃ env' h', RepE nt te' env' ∧ RepH th' h' ∧ xOps xcall lo os env h tc = some (e, env', h', tc')
  | [], te, th, tc, env, h, e, te', th', tc', re, rh, hx => by
    simp only [opsF, Option.some.injEq, Prod.mk.injEq] at hx
    obtain ⟨rfl, rfl, rfl, rfl⟩ := hx
    exact ⟨env, h, re, rh, rfl⟩
  | o :: os, te, th, tc, env, h, e, te', th', tc', re, rh, hx => by
    simp only [opsF] at hx
    cases hin : inF nt o.dst with
    | false => rw [hin] at hx; simp at hx
    | true =>
      rw [hin, cond_true, guardF_eq re, re.ev] at hx
      unfold xOps
      split at hx
      · rename_i hg
        rw [hg]
        simp only
        split at hx
        · rename_i f as hop
          simp only [hop]
          split at hx
          · rename_i k caps hk
            rw [hk]
            simp only
            split at hx
            · rename_i v th1 tc1 hc
              obtain ⟨h1, r1, c1⟩ := hcall _ _ _ _ _ _ _ rh hc
              rw [c1]
              simp only
              exact opsF_sim hcall os _ _ _ _ h1 e te' th' tc' (re.set hin v) r1 hx
            · rename_i v th1 tc1 hc
              obtain ⟨h1, r1, c1⟩ := hcall _ _ _ _ _ _ _ rh hc
              rw [c1]
              simp only [Option.some.injEq, Prod.mk.injEq] at hx ⊢
              obtain ⟨rfl, rfl, rfl, rfl⟩ := hx
              exact ⟨env, h1, re, r1, rfl, rfl, rfl, rfl⟩
            · cases hx
          · cases hx
        · rename_i x hop
          simp only [hop]
          split at hx
          · rename_i t v hv
            rw [hv]
            simp only [Option.some.injEq, Prod.mk.injEq] at hx ⊢
            obtain ⟨rfl, rfl, rfl, rfl⟩ := hx
            exact ⟨env, h, re, rh, rfl, rfl, rfl, rfl⟩
          · cases hx
        · rename_i n1 n2
          rw [rh.hat, rh.len, runG_eq] at hx
          split at hx
          · rename_i v u hr
            have ru := RepH.upd u rh
            cases hb : updB (updF u th).len u with
            | false => rw [hb] at hx; simp at hx
            | true =>
              rw [hb, cond_true] at hx
              obtain ⟨env', h', q1, q2, q3⟩ := opsF_sim hcall os _ _ _ _ (h.upd u) e te' th' tc' (re.set hin v) ru hx
              refine ⟨env', h', q1, q2, ?_⟩
              split
              · rename_i f as hop; exact absurd hop (n1 f as)
              · rename_i x hop; exact absurd hop (n2 x)
              · rw [hr]
                simp only
                rw [if_pos (by rw [← ru.len]; exact hb)]
                exact q3
          · cases hx
      · rename_i hg
        rw [hg]
        exact opsF_sim hcall os _ _ _ _ h e te' th' tc' (re.set hin _) rh hx
      · cases hx
end Go.AM

namespace Go.AM

/-- What may be looked at. -/
def visF (M : List Nat) (f : Option (List Nat)) (p : Nat) : Bool := !M.contains p && (match f with | none => true | some l => l.contains p)

def footF (te : AEnv) : ROp → Option (List Nat)
  | .load _ a => some (evF te a).idOf
  | .store _ a _ => some (evF te a).idOf
  | .slcA _ _ x => some (evF te x).idOf
  | .clr _ _ x => some (evF te x).idOf
  | .len _ x => some (evF te x).idOf
  | .look _ _ _ m _ => some (evF te m).idOf
  | .mupd _ m _ _ => some (evF te m).idOf
  | .app _ _ s x => some ((evF te s).idOf ++ (evF te x).idOf)
  | .call f as => if (evF te f).noId && noIdL (as.map (evF te)) then some [] else none
  | _ => some []

def keepF (P : Nat → Bool) : List (Nat × Option Blk) → List (Nat × Option Blk)
  | [] => []
  | (p, k) :: bs => bif P p then (p, k) :: keepF P bs else keepF P bs

def drawF (call : FCall) (bef : List Nat) (nt lo : Nat) : List ROper → Nat → List LogE → AEnv → AHeap → List Nat → Option (AEnv × AHeap × List Nat)
  | [], _, _, te, th, tc => some (te, th, tc)
  | o :: os, i, log, te, th, tc => bif inF nt o.dst then
    match guardF o.guard te with
    | some true => match o.op with
      | .panic _ => none
      | .call f as => match evF te f with
        | .fn k caps => match call k (as.map (evF te) ++ caps) ⟨th.len, keepF (visF (masked bef i log 0) (footF te o.op)) th.bs⟩ with
          | some (.ret v, th', tc') =>
            bif Nat.ble th.len th'.len && (bndL th.len (as.map (evF te) ++ caps) && tc'.all (fun p => decide (p < th.len) && wchkB bef i log p)) then
              drawF call bef nt lo os (i + 1) (log ++ [⟨footF te o.op, th.len, th'.len, tc' ++ List.range' th.len (th'.len - th.len)⟩]) (setF te o.dst v)
                ⟨th'.len, keepF (fun p => Nat.ble th.len p) th'.bs ++ (tc'.map fun p => (p, lookB th'.bs p)) ++ th.bs⟩ (below lo tc' tc)
            else none
          | _ => none
        | _ => none
      | r => match r.runG (evF te) (bif r.heapy then (fun p => bif visF (masked bef i log 0) (footF te o.op) p then lookB th.bs p else none) else lookB th.bs) th.len with
        | some (true, v, u) => bif (u.map (·.1)).all (fun p => decide (th.len ≤ p) || wchkB bef i log p) && updB (updF u th).len u then
            drawF call bef nt lo os (i + 1) (log ++ [⟨footF te o.op, th.len, (updF u th).len, u.map (·.1)⟩]) (setF te o.dst v) (updF u th) (below lo (u.map (·.1)) tc) else none
        | _ => none
    | some false => drawF call bef nt lo os (i + 1) (log ++ [⟨footF te o.op, th.len, th.len, []⟩]) (setF te o.dst (.tup [])) th tc
    | none => none
    else none

def loopF (body : AEnv → AHeap → List Nat → FRes) : Nat → AEnv → AHeap → List Nat → FRes
  | 0, _, _, _ => none
  | n + 1, te, th, tc => match body te th tc with
    | some (.normal, te', th', tc') => loopF body n te' th' tc'
    | r => r

def codeF (call : FCall) (nt lo n : Nat) : RCode → AEnv → AHeap → List Nat → FRes
  | .skip, te, th, tc => some (.normal, te, th, tc)
  | .reg true bef ops, te, th, tc => match drawF call bef nt lo ops 0 [] te th tc with
    | some (te', th', tc') => some (.normal, te', th', tc')
    | none => none
  | .reg false _ ops, te, th, tc => opsF call nt lo ops te th tc
  | .seq a b, te, th, tc => match codeF call nt lo n a te th tc with
    | some (.normal, te', th', tc') => codeF call nt lo n b te' th' tc'
    | r => r
  | .cond c a b, te, th, tc => match evF te c with
    | .bool true => codeF call nt lo n a te th tc
    | .bool false => codeF call nt lo n b te th tc
    | _ => none
  | .block id b, te, th, tc => match codeF call nt lo n b te th tc with
    | some (.exit id', te', th', tc') => bif Nat.beq id' id then some (.normal, te', th', tc') else some (.exit id', te', th', tc')
    | r => r
  | .loop b, te, th, tc => loopF (codeF call nt lo n b) n te th tc
  | .exit id, te, th, tc => some (.exit id, te, th, tc)
  | .ret, te, th, tc => some (.ret, te, th, tc)

def resOneF (te : AEnv) (th : AHeap) : RRes → Option AV
  | .t n => some (lookE te n)
  | .cell n ag => match lookE te n with
    | .ptr id off => match lookB th.bs id with
      | some (.cells cs) => part ag cs off
      | _ => none
    | .vptr cs off => part ag cs off
    | _ => none
def resAllF (te : AEnv) (th : AHeap) : List RRes → Option (List AV)
  | [] => some []
  | r :: rs => match resOneF te th r, resAllF te th rs with
    | some v, some vs => some (v :: vs)
    | _, _ => none
def retF (res : List RRes) (te : AEnv) (th : AHeap) (tc : List Nat) : Option (Out × AHeap × List Nat) :=
  match resAllF te th res with
  | some [v] => some (.ret v, th, tc)
  | some vs => some (.ret (.tup vs), th, tc)
  | none => none
def endF (res : List RRes) : FRes → Option (Out × AHeap × List Nat)
  | some (.normal, te, th, tc) => retF res te th tc
  | some (.ret, te, th, tc) => retF res te th tc
  | some (.panic v, _, th, tc) => some (.pan v, th, tc)
  | _ => none

/-- The slots at a function's entry. -/
def numF : Nat → List AV → AEnv
  | _, [] => []
  | i, v :: vs => (i, v) :: numF (i + 1) vs
def argsF : Nat → AEnv
  | 0 => []
  | n + 1 => (n, .tup []) :: argsF n
def entF (args : List AV) (nt : Nat) : AEnv := numF 0 args ++ argsF nt

def trimF (th : AHeap) : Option (Out × AHeap × List Nat) → Option (Out × AHeap × List Nat)
  | some (.ret v, th', []) => bif v.pure then some (.ret v, th, []) else some (.ret v, th', [])
  | r => r

def handF (call : FCall) (lo n : Nat) (H : HFunc) (cv : List AV) (x : AV) (res : List RRes) (te : AEnv) (th : AHeap) (tc : List Nat) : Option (Out × AHeap × List Nat) :=
  match codeF call H.ntmps lo n H.body ((H.d, x) :: (H.r, x) :: entF cv H.ntmps) th tc with
  | some (.normal, _, th', tc') => retF res te th' tc'
  | some (.ret, _, th', tc') => retF res te th' tc'
  | _ => none

def bodyF (call : FCall) (n : Nat) (x : XF) (args : List AV) (th : AHeap) : Option (Out × AHeap × List Nat) :=
  match x with
  | .fn rf => bif Nat.ble args.length rf.ntmps then endF rf.res (codeF call rf.ntmps th.len n rf.body (entF args rf.ntmps) th []) else none
  | .guard g H => bif Nat.ble args.length g.ntmps && Nat.blt g.t g.ntmps && Nat.ble g.caps.length H.ntmps && Nat.blt H.d H.ntmps && Nat.blt H.r H.ntmps then
    match codeF call g.ntmps th.len n g.pre (entF args g.ntmps) th [] with
    | some (.normal, te, h1, tc1) =>
        match codeF call g.ntmps th.len n g.post ((g.t, .fn g.df (g.caps.map (evF te))) :: te) h1 tc1 with
        | some (.normal, te', h2, tc2) => handF call th.len n H (g.caps.map (evF te)) .nilif g.res te' h2 tc2
        | some (.ret, te', h2, tc2) => handF call th.len n H (g.caps.map (evF te)) .nilif g.res te' h2 tc2
        | some (.panic v, te', h2, tc2) => handF call th.len n H (g.caps.map (evF te)) v g.res te' h2 tc2
        | _ => none
    | some (.ret, te, h1, tc1) => retF g.res te h1 tc1
    | some (.panic v, _, h1, tc1) => some (.pan v, h1, tc1)
    | _ => none
    else none

def funF (tab : Nat → Option XF) : Nat → FCall
  | 0 => fun _ _ _ => none
  | n + 1 => fun f args th => match tab f with
    | some x => trimF th (bodyF (funF tab n) n x args th)
    | none => none
end Go.AM

namespace Go.AM

theorem footF_eq {nt : Nat} {te : AEnv} {env : List AV} (r : RepE nt te env) (o : ROp) : footF te o = o.foot env := by
  cases o <;> simp only [footF, ROp.foot, r.ev]

theorem lookB_keep (P : Nat → Bool) : ∀ (bs : List (Nat × Option Blk)) (p : Nat), lookB (keepF P bs) p = bif P p then lookB bs p else none
  | [], p => by simp [keepF, lookB]
  | (q, k) :: bs, p => by
    simp only [keepF, lookB]
    by_cases e : q = p
    · subst e
      cases hP : P q with
      | true => simp [lookB]
      | false => rw [cond_false, lookB_keep P bs q, hP]; rfl
    · have hb : Nat.beq q p = false := by
        cases h : Nat.beq q p with
        | false => rfl
        | true => exact absurd (Nat.eq_of_beq_eq_true h) e
      cases hP : P q with
      | true => simp only [cond_true, lookB, hb, cond_false]; exact lookB_keep P bs p
      | false => simp only [cond_false, hb]; exact lookB_keep P bs p

theorem lookB_append : ∀ (as bs : List (Nat × Option Blk)) (p : Nat), (∀ k, (p, k) ∉ as) → lookB (as ++ bs) p = lookB bs p
  | [], bs, p, _ => rfl
  | (q, k) :: as, bs, p, h => by
    have e : q ≠ p := fun x => h k (by subst x; simp)
    have hb : Nat.beq q p = false := by
      cases h : Nat.beq q p with
      | false => rfl
      | true => exact absurd (Nat.eq_of_beq_eq_true h) e
    simp only [List.cons_append, lookB, hb, cond_false]
    exact lookB_append as bs p fun k hk => h k (by simp [hk])

theorem lookB_append_mem : ∀ (as bs : List (Nat × Option Blk)) (p : Nat), (∃ k, (p, k) ∈ as) → lookB (as ++ bs) p = lookB as p
  | [], bs, p, h => by simp at h
  | (q, k) :: as, bs, p, h => by
    by_cases e : q = p
    · subst e; simp [lookB]
    · have hb : Nat.beq q p = false := by
        cases h : Nat.beq q p with
        | false => rfl
        | true => exact absurd (Nat.eq_of_beq_eq_true h) e
      simp only [List.cons_append, lookB, hb, cond_false]
      refine lookB_append_mem as bs p ?_
      obtain ⟨k', hk⟩ := h
      rcases List.mem_cons.1 hk with hk | hk
      · simp only [Prod.mk.injEq] at hk; exact absurd hk.1.symm e
      · exact ⟨k', hk⟩

theorem lookB_none : ∀ (as : List (Nat × Option Blk)) (p : Nat), (∀ k, (p, k) ∉ as) → lookB as p = none
  | [], p, _ => rfl
  | (q, k) :: as, p, h => by
    have e : q ≠ p := fun x => h k (by subst x; simp)
    have hb : Nat.beq q p = false := by
      cases h : Nat.beq q p with
      | false => rfl
      | true => exact absurd (Nat.eq_of_beq_eq_true h) e
    simp only [lookB, hb, cond_false]
    exact lookB_none as p fun k hk => h k (by simp [hk])

theorem lookB_tab (f : Nat → Option Blk) : ∀ (l : List Nat) (p : Nat), p ∈ l → lookB (l.map fun p => (p, f p)) p = f p
  | [], p, h => by simp at h
  | q :: l, p, h => by
    simp only [List.map_cons, lookB]
    by_cases e : q = p
    · subst e; simp
    · have hb : Nat.beq q p = false := by
        cases h : Nat.beq q p with
        | false => rfl
        | true => exact absurd (Nat.eq_of_beq_eq_true h) e
      rw [hb, cond_false]
      exact lookB_tab f l p ((List.mem_cons.1 h).resolve_left fun x => e x.symm)

theorem keepF_mem (P : Nat → Bool) : ∀ (bs : List (Nat × Option Blk)) (p : Nat) (k : Option Blk), (p, k) ∈ keepF P bs → P p = true
  | [], p, k, h => by simp [keepF] at h
  | (q, k') :: bs, p, k, h => by
    simp only [keepF] at h
    cases hP : P q with
    | true =>
      rw [hP, cond_true] at h
      rcases List.mem_cons.1 h with h | h
      · simp only [Prod.mk.injEq] at h; rw [h.1]; exact hP
      · exact keepF_mem P bs p k h
    | false => rw [hP, cond_false] at h; exact keepF_mem P bs p k h

theorem vw_at_eq (bef : List Nat) (i : Nat) (log : List LogE) (f : Option (List Nat)) (h : Heap) (p : Nat) : (vw bef i log f h).at p = bif visF (masked bef i log 0) f p then h.at p else none := by
  unfold vw visF
  cases f with
  | none =>
    simp only [only, Bool.and_true]
    rw [mask_at]
    cases (masked bef i log 0).contains p <;> rfl
  | some l =>
    simp only [only]
    rw [onlyAux_at, mask_at, Nat.zero_add]
    cases (masked bef i log 0).contains p <;> cases l.contains p <;> rfl

theorem RepH.vw {th : AHeap} {h : Heap} (r : RepH th h) (bef : List Nat) (i : Nat) (log : List LogE) (f : Option (List Nat)) : RepH ⟨th.len, keepF (visF (masked bef i log 0) f) th.bs⟩ (vw bef i log f h) :=
  ⟨by rw [vw_length]; exact r.len, fun p => by rw [lookB_keep, vw_at_eq, r.get]⟩

/-- Behind a call. -/
theorem RepH.back {th th' : AHeap} {h h' : Heap} {tc : List Nat} (r : RepH th h) (r' : RepH th' h') (hl : h.length ≤ h'.length) (ht : ∀ p ∈ tc, p < h.length) :
    RepH ⟨th'.len, keepF (fun p => Nat.ble th.len p) th'.bs ++ (tc.map fun p => (p, lookB th'.bs p)) ++ th.bs⟩ (h.upd (tc.map fun p => (p, h'.at p)) ++ h'.drop h.length) := by
  have hfst : (tc.map fun p => (p, h'.at p)).map (·.1) = tc := by
    rw [List.map_map]
    have : ((fun x : Nat × Option Blk => x.1) ∘ fun p => (p, h'.at p)) = id := rfl
    rw [this, List.map_id]
  have hll : (h.upd (tc.map fun p => (p, h'.at p))).length = h.length := upd_length_lt _ h (by rw [hfst]; exact ht)
  refine ⟨?_, fun p => ?_⟩
  · rw [List.length_append, hll, List.length_drop, r'.len]; omega
  · rcases Nat.lt_or_ge p h.length with q | q
    · rw [at_append_lt (by omega)]
      have h1 : ∀ k, (p, k) ∉ keepF (fun p => Nat.ble th.len p) th'.bs := by
        intro k hk
        have := keepF_mem _ _ _ _ hk
        simp only [Nat.ble_eq] at this
        rw [r.len] at this; omega
      rw [List.append_assoc, lookB_append _ _ _ h1]
      by_cases hp : p ∈ tc
      · rw [lookB_append_mem _ _ _ ⟨lookB th'.bs p, List.mem_map.2 ⟨p, hp, rfl⟩⟩, lookB_tab _ tc p hp, upd_map_at h' tc h p hp]
        exact r'.get p
      · rw [lookB_append _ _ _ (by
          intro k hk
          obtain ⟨q', h1, h2⟩ := List.mem_map.1 hk
          simp only [Prod.mk.injEq] at h2
          rw [h2.1] at h1; exact hp h1), upd_at_not _ _ _ (by rw [hfst]; exact hp)]
        exact r.get p
    · rw [at_append_ge (by omega), hll]
      have e1 : Heap.at (h'.drop h.length) (p - h.length) = h'.at p := by
        unfold Heap.at
        rw [List.getElem?_drop]; congr 2; omega
      rw [e1, ← r'.get p, List.append_assoc]
      by_cases hm : ∃ k, (p, k) ∈ keepF (fun p => Nat.ble th.len p) th'.bs
      · rw [lookB_append_mem _ _ _ hm, lookB_keep]
        have : Nat.ble th.len p = true := by rw [r.len]; simp only [Nat.ble_eq]; exact q
        rw [this]; rfl
      · have hm' : ∀ k, (p, k) ∉ keepF (fun p => Nat.ble th.len p) th'.bs := fun k hk => hm ⟨k, hk⟩
        rw [lookB_append _ _ _ hm', lookB_append _ _ _ (by
          intro k hk
          obtain ⟨q', h1, h2⟩ := List.mem_map.1 hk
          simp only [Prod.mk.injEq] at h2
          have := ht q' h1
          omega)]
        have e2 := lookB_none _ _ hm'
        rw [lookB_keep] at e2
        have : Nat.ble th.len p = true := by rw [r.len]; simp only [Nat.ble_eq]; exact q
        rw [this, cond_true] at e2
        rw [e2, r.get p]
        unfold Heap.at
        rw [List.getElem?_eq_none q]; rfl
end Go.AM

namespace Go.AM

def SimC (call : FCall) (xcall : XCall) : Prop := ∀ f args th h out th' tc, RepH th h → call f args th = some (out, th', tc) → ∃ h', RepH th' h' ∧ xcall f args h = some (out, h', tc)

section
variable {call : FCall} {xcall : XCall} {nt lo : Nat}

theorem drawF_sim (hcall : SimC call xcall) {bef : List Nat} :
    ∀ (os : List ROper) (i : Nat) (log : List LogE) (te : AEnv) (th : AHeap) (tc : List Nat) (env : List AV) (h : Heap) (te' : AEnv) (th' : AHeap) (tc' : List Nat), RepE nt te env → RepH th h →
      drawF call bef nt lo os i log te th tc = some (te', th', tc') → ∃ env' h', RepE nt te' env' ∧ RepH th' h' ∧ xDraw xcall bef lo os i log env h tc = some (env', h', tc')
  | [], i, log, te, th, tc, env, h, te', th', tc', re, rh, hx => by
    simp only [drawF, Option.some.injEq, Prod.mk.injEq] at hx
    obtain ⟨rfl, rfl, rfl⟩ := hx
    exact ⟨env, h, re, rh, rfl⟩
  | o :: os, i, log, te, th, tc, env, h, te', th', tc', re, rh, hx => by
    simp only [drawF] at hx
    cases hin : inF nt o.dst with
    | false => rw [hin] at hx; simp at hx
    | true =>
      rw [hin, cond_true, guardF_eq re, re.ev, footF_eq re] at hx
      unfold xDraw
      split at hx
      · rename_i hg
        rw [hg]
        simp only
        generalize hop : o.op = op at hx ⊢
        by_cases hcl : ∃ f as, op = .call f as
        · obtain ⟨f, as, rfl⟩ := hcl
          simp only at hx ⊢
          split at hx
          · rename_i k caps hk
            rw [hk]
            simp only
            split at hx
            · rename_i v th1 tc1 hc
              obtain ⟨h1, r1, c1⟩ := hcall _ _ _ _ _ _ _ (rh.vw bef i log _) hc
              rw [c1]
              simp only
              cases hcond : (Nat.ble th.len th1.len && (bndL th.len (as.map (RO.ev env) ++ caps) && tc1.all fun p => decide (p < th.len) && wchkB bef i log p)) with
              | false => rw [hcond] at hx; simp at hx
              | true =>
                rw [hcond, cond_true] at hx
                rw [Bool.and_eq_true, rh.len] at hcond
                obtain ⟨hc1, hc2⟩ := hcond
                rw [r1.len] at hc1
                simp only [Nat.ble_eq] at hc1
                have ht : ∀ p ∈ tc1, p < h.length := by
                  rw [Bool.and_eq_true] at hc2
                  intro p hp
                  have := (List.all_eq_true.1 hc2.2) p hp
                  simp only [Bool.and_eq_true, decide_eq_true_eq] at this
                  exact this.1
                rw [if_pos hc2]
                have rb := RepH.back rh r1 hc1 ht
                have hl1 : th1.len = h1.length := r1.len
                rw [← rh.len, ← hl1]
                have := drawF_sim hcall os _ _ _ _ _ _ _ te' th' tc' (re.set hin v) rb hx
                rw [rh.len] at this ⊢
                exact this
            · cases hx
          · cases hx
        · by_cases hpn : ∃ x, op = .panic x
          · obtain ⟨x, rfl⟩ := hpn
            simp only at hx
            cases hx
          · split at hx
            · exact absurd ⟨_, rfl⟩ hpn
            · exact absurd ⟨_, _, rfl⟩ hcl
            · rename_i r n1 n2
              have ehat : (bif op.heapy then (fun p => bif visF (masked bef i log 0) (op.foot env) p then lookB th.bs p else none) else lookB th.bs) = (if op.heapy then vw bef i log (op.foot env) h else h).at := by
                cases op.heapy with
                | true =>
                  funext p
                  simp only [cond_true, if_true]
                  rw [vw_at_eq, rh.get]
                | false =>
                  simp only [cond_false, Bool.false_eq_true, if_false]
                  exact rh.hat
              rw [ehat, rh.len, runG_eq] at hx
              split at hx
              · rename_i v u hr
                have ru := RepH.upd u rh
                cases hcond : ((u.map (·.1)).all (fun p => decide (h.length ≤ p) || wchkB bef i log p) && updB (updF u th).len u) with
                | false => rw [hcond] at hx; simp at hx
                | true =>
                  rw [hcond, cond_true] at hx
                  obtain ⟨env', h', q1, q2, q3⟩ := drawF_sim hcall os _ _ _ _ _ _ (h.upd u) te' th' tc' (re.set hin v) ru hx
                  refine ⟨env', h', q1, q2, ?_⟩
                  split
                  · exact absurd ⟨_, rfl⟩ hpn
                  · exact absurd ⟨_, _, rfl⟩ hcl
                  · rw [hr]
                    simp only
                    rw [ru.len] at hcond q3
                    rw [if_pos hcond]
                    exact q3
              · cases hx
      · rename_i hg
        rw [hg]
        rw [rh.len] at hx
        exact drawF_sim hcall os _ _ _ _ _ _ h te' th' tc' (re.set hin _) rh hx
      · cases hx
end
end Go.AM

namespace Go.AM
section
variable {call : FCall} {xcall : XCall} {nt lo : Nat}

def SimB (nt : Nat) (bf : AEnv → AHeap → List Nat → FRes) (bx : List AV → Heap → List Nat → XRes) : Prop := ∀ te th tc env h e te' th' tc', RepE nt te env → RepH th h →
  bf te th tc = some (e, te', th', tc') → ∃ env' h', RepE nt te' env' ∧ RepH th' h' ∧ bx env h tc = some (e, env', h', tc')

theorem loopF_sim {bf : AEnv → AHeap → List Nat → FRes} {bx : List AV → Heap → List Nat → XRes} (hb : SimB nt bf bx) : ∀ n, SimB nt (loopF bf n) (xLoop bx n)
  | 0 => by intro te th tc env h e te' th' tc' re rh hx; cases hx
  | n + 1 => by
    intro te th tc env h e te' th' tc' re rh hx
    simp only [loopF] at hx
    unfold xLoop
    split at hx
    · rename_i te1 th1 tc1 hr
      obtain ⟨env1, h1, q1, q2, q3⟩ := hb _ _ _ _ _ _ _ _ _ re rh hr
      rw [q3]
      exact loopF_sim hb n _ _ _ _ _ _ _ _ _ q1 q2 hx
    · rename_i hne
      obtain ⟨env1, h1, q1, q2, q3⟩ := hb _ _ _ _ _ _ _ _ _ re rh hx
      refine ⟨env1, h1, q1, q2, ?_⟩
      rw [q3]
      cases e with
      | normal => exact absurd hx (hne _ _ _)
      | _ => rfl

theorem codeF_sim (hcall : SimC call xcall) (n : Nat) : ∀ rc : RCode, SimB nt (codeF call nt lo n rc) (xCode xcall lo n rc) := by
  intro rc
  induction rc with
  | skip =>
    intro te th tc env h e te' th' tc' re rh hx
    simp only [codeF, Option.some.injEq, Prod.mk.injEq] at hx
    obtain ⟨rfl, rfl, rfl, rfl⟩ := hx
    exact ⟨env, h, re, rh, rfl⟩
  | reg draw bef ops =>
    intro te th tc env h e te' th' tc' re rh hx
    cases draw with
    | true =>
      simp only [codeF] at hx
      split at hx
      · rename_i te1 th1 tc1 hr
        simp only [Option.some.injEq, Prod.mk.injEq] at hx
        obtain ⟨rfl, rfl, rfl, rfl⟩ := hx
        obtain ⟨env', h', q1, q2, q3⟩ := drawF_sim hcall _ _ _ _ _ _ _ _ _ _ _ re rh hr
        exact ⟨env', h', q1, q2, by simp only [xCode, q3]⟩
      · cases hx
    | false => exact opsF_sim hcall _ _ _ _ _ _ _ _ _ _ re rh hx
  | seq a b iha ihb =>
    intro te th tc env h e te' th' tc' re rh hx
    simp only [codeF] at hx
    unfold xCode
    split at hx
    · rename_i te1 th1 tc1 hr
      obtain ⟨env1, h1, q1, q2, q3⟩ := iha _ _ _ _ _ _ _ _ _ re rh hr
      rw [q3]
      exact ihb _ _ _ _ _ _ _ _ _ q1 q2 hx
    · rename_i hne
      obtain ⟨env1, h1, q1, q2, q3⟩ := iha _ _ _ _ _ _ _ _ _ re rh hx
      refine ⟨env1, h1, q1, q2, ?_⟩
      rw [q3]
      cases e with
      | normal => exact absurd hx (hne _ _ _)
      | _ => rfl
  | cond c a b iha ihb =>
    intro te th tc env h e te' th' tc' re rh hx
    simp only [codeF, re.ev] at hx
    unfold xCode
    split at hx
    · rename_i hc
      rw [hc]
      exact iha _ _ _ _ _ _ _ _ _ re rh hx
    · rename_i hc
      rw [hc]
      exact ihb _ _ _ _ _ _ _ _ _ re rh hx
    · cases hx
  | block id b ih =>
    intro te th tc env h e te' th' tc' re rh hx
    simp only [codeF] at hx
    unfold xCode
    split at hx
    · rename_i id' te1 th1 tc1 hr
      obtain ⟨env1, h1, q1, q2, q3⟩ := ih _ _ _ _ _ _ _ _ _ re rh hr
      rw [q3]
      simp only
      by_cases hid : id' = id
      · subst hid
        simp only [Nat.beq_refl, cond_true, Option.some.injEq, Prod.mk.injEq] at hx
        obtain ⟨rfl, rfl, rfl, rfl⟩ := hx
        exact ⟨env1, h1, q1, q2, by rw [if_pos rfl]⟩
      · have hb : Nat.beq id' id = false := by
          cases h : Nat.beq id' id with
          | false => rfl
          | true => exact absurd (Nat.eq_of_beq_eq_true h) hid
        simp only [hb, cond_false, Option.some.injEq, Prod.mk.injEq] at hx
        obtain ⟨rfl, rfl, rfl, rfl⟩ := hx
        exact ⟨env1, h1, q1, q2, by rw [if_neg hid]⟩
    · rename_i hne
      obtain ⟨env1, h1, q1, q2, q3⟩ := ih _ _ _ _ _ _ _ _ _ re rh hx
      refine ⟨env1, h1, q1, q2, ?_⟩
      rw [q3]
      cases e with
      | exit id' => exact absurd hx (hne _ _ _ _)
      | _ => rfl
  | loop b ih =>
    intro te th tc env h e te' th' tc' re rh hx
    exact loopF_sim ih n _ _ _ _ _ _ _ _ _ re rh hx
  | exit id =>
    intro te th tc env h e te' th' tc' re rh hx
    simp only [codeF, Option.some.injEq, Prod.mk.injEq] at hx
    obtain ⟨rfl, rfl, rfl, rfl⟩ := hx
    exact ⟨env, h, re, rh, rfl⟩
  | ret =>
    intro te th tc env h e te' th' tc' re rh hx
    simp only [codeF, Option.some.injEq, Prod.mk.injEq] at hx
    obtain ⟨rfl, rfl, rfl, rfl⟩ := hx
    exact ⟨env, h, re, rh, rfl⟩
end
end Go.AM

namespace Go.AM

theorem beq_ne {a b : Nat} (h : a ≠ b) : Nat.beq a b = false := by
  cases hh : Nat.beq a b with
  | false => rfl
  | true => exact absurd (Nat.eq_of_beq_eq_true hh) h

theorem lookE_argsF : ∀ n t, lookE (argsF n) t = if t < n then .tup [] else .undef
  | 0, t => by simp [argsF, lookE]
  | n + 1, t => by
    simp only [argsF, lookE]
    by_cases e : n = t
    · subst e; simp
    · rw [beq_ne e, cond_false, lookE_argsF n t]
      by_cases h : t < n
      · rw [if_pos h, if_pos (by omega)]
      · rw [if_neg h, if_neg (by omega)]

theorem lookE_numF (rest : AEnv) : ∀ (vs : List AV) (i t : Nat), lookE (numF i vs ++ rest) t = if i ≤ t ∧ t < i + vs.length then vs.getD (t - i) .undef else lookE rest t
  | [], i, t => by simp only [numF, List.nil_append, List.length_nil]; rw [if_neg (by omega)]
  | v :: vs, i, t => by
    simp only [numF, List.cons_append, lookE]
    by_cases e : i = t
    · subst e; simp
    · rw [beq_ne e, cond_false, lookE_numF rest vs (i + 1) t]
      by_cases h : i + 1 ≤ t ∧ t < i + 1 + vs.length
      · rw [if_pos h, if_pos (by simp; omega)]
        have : t - i = (t - (i + 1)) + 1 := by omega
        rw [this]; simp [List.getD]
      · rw [if_neg h, if_neg (by simp; omega)]

theorem RepE.ent {args : List AV} {nt : Nat} (hl : args.length ≤ nt) : RepE nt (entF args nt) (args ++ List.replicate (nt - args.length) (.tup [])) := by
  refine ⟨by simp; omega, fun t => ?_⟩
  unfold entF
  rw [lookE_numF]
  by_cases h : t < args.length
  · rw [if_pos (by omega)]
    simp [List.getD, List.getElem?_append_left h]
  · rw [if_neg (by omega), lookE_argsF]
    simp only [List.getD]
    rw [List.getElem?_append_right (by omega)]
    by_cases h2 : t < nt
    · rw [if_pos h2, List.getElem?_replicate, if_pos (by omega)]; rfl
    · rw [if_neg h2, List.getElem?_replicate, if_neg (by omega)]; rfl

section
variable {call : FCall} {xcall : XCall} {nt : Nat}

theorem resAllF_eq {te : AEnv} {env : List AV} {th : AHeap} {h : Heap} (re : RepE nt te env) (rh : RepH th h) : ∀ rs, resAllF te th rs = resAll env h rs
  | [] => rfl
  | r :: rs => by
    have h1 : resOneF te th r = resOne env h r := by
      cases r with
      | t n => simp only [resOneF, resOne, re.get]
      | cell n ag => simp only [resOneF, resOne, re.get, rh.get]; rfl
    simp only [resAllF, resAll, h1, resAllF_eq re rh rs]
    rfl

theorem retF_sim {te : AEnv} {env : List AV} {th : AHeap} {h : Heap} (re : RepE nt te env) (rh : RepH th h) {res : List RRes} {tc : List Nat} {out : Out} {th' : AHeap} {tc' : List Nat} (hx : retF res te th tc = some (out, th', tc')) :
    th' = th ∧ tc' = tc ∧ xRet res env h tc = some (out, h, tc) := by
  unfold retF at hx
  rw [resAllF_eq re rh] at hx
  unfold xRet resA
  split at hx
  · rename_i v hv
    simp only [Option.some.injEq, Prod.mk.injEq] at hx
    obtain ⟨rfl, rfl, rfl⟩ := hx
    rw [hv]; exact ⟨rfl, rfl, rfl⟩
  · rename_i vs hne hv
    simp only [Option.some.injEq, Prod.mk.injEq] at hx
    obtain ⟨rfl, rfl, rfl⟩ := hx
    refine ⟨rfl, rfl, ?_⟩
    rw [hv]
    match vs, hne with
    | [], _ => rfl
    | [v], hne => exact absurd rfl (hne v)
    | _ :: _ :: _, _ => rfl
  · cases hx

theorem handF_sim (hcall : SimC call xcall) {lo n : Nat} {H : HFunc} {cv : List AV} (hl : cv.length ≤ H.ntmps) (hd : H.d < H.ntmps) (hr : H.r < H.ntmps) {x : AV} {res : List RRes} {te : AEnv} {env : List AV} {th : AHeap} {h : Heap} {tc : List Nat}
    (re : RepE nt te env) (rh : RepH th h) {out : Out} {th' : AHeap} {tc' : List Nat} (hx : handF call lo n H cv x res te th tc = some (out, th', tc')) :
    ∃ h', RepH th' h' ∧ xHand xcall lo n H cv x res env h tc = some (out, h', tc') := by
  have r0 : RepE H.ntmps ((H.d, x) :: (H.r, x) :: entF cv H.ntmps) (hEnv H cv x) := by
    have r1 := (RepE.ent hl).set (d := some H.r) (by simp [inF, Nat.blt_eq, hr]) x
    exact r1.set (d := some H.d) (by simp [inF, Nat.blt_eq, hd]) x
  unfold handF at hx
  unfold xHand
  split at hx
  · rename_i te1 th1 tc1 hc
    obtain ⟨env1, h1, q1, q2, q3⟩ := codeF_sim hcall n H.body _ _ _ _ _ _ _ _ _ r0 rh hc
    rw [q3]
    obtain ⟨rfl, rfl, q4⟩ := retF_sim re q2 hx
    exact ⟨h1, q2, q4⟩
  · rename_i te1 th1 tc1 hc
    obtain ⟨env1, h1, q1, q2, q3⟩ := codeF_sim hcall n H.body _ _ _ _ _ _ _ _ _ r0 rh hc
    rw [q3]
    obtain ⟨rfl, rfl, q4⟩ := retF_sim re q2 hx
    exact ⟨h1, q2, q4⟩
  · cases hx
end
end Go.AM

namespace Go.AM
section
variable {call : FCall} {xcall : XCall}

theorem endF_sim {nt : Nat} {te : AEnv} {env : List AV} {th : AHeap} {h : Heap} {e : AExit} {tc : List Nat} (re : RepE nt te env) (rh : RepH th h) {res : List RRes} {out : Out} {th' : AHeap} {tc' : List Nat}
    (hx : endF res (some (e, te, th, tc)) = some (out, th', tc')) : th' = th ∧ xEnd res (some (e, env, h, tc)) = some (out, h, tc') := by
  cases e with
  | normal => obtain ⟨rfl, rfl, q⟩ := retF_sim re rh hx; exact ⟨rfl, q⟩
  | ret => obtain ⟨rfl, rfl, q⟩ := retF_sim re rh hx; exact ⟨rfl, q⟩
  | panic v =>
    simp only [endF, Option.some.injEq, Prod.mk.injEq] at hx
    obtain ⟨rfl, rfl, rfl⟩ := hx
    exact ⟨rfl, rfl⟩
  | exit id => cases hx

theorem bodyF_sim (hcall : SimC call xcall) {n : Nat} {x : XF} {args : List AV} {th : AHeap} {h : Heap} (rh : RepH th h) {out : Out} {th' : AHeap} {tc' : List Nat} (hx : bodyF call n x args th = some (out, th', tc')) :
    ∃ h', RepH th' h' ∧ xBody xcall n x args h = some (out, h', tc') := by
  unfold bodyF at hx
  unfold xBody
  cases x with
  | fn rf =>
    simp only at hx ⊢
    cases hl : Nat.ble args.length rf.ntmps with
    | false => rw [hl] at hx; simp at hx
    | true =>
      rw [hl, cond_true] at hx
      simp only [Nat.ble_eq] at hl
      cases hc : codeF call rf.ntmps th.len n rf.body (entF args rf.ntmps) th [] with
      | none => rw [hc] at hx; simp [endF] at hx
      | some r =>
        obtain ⟨e, te1, th1, tc1⟩ := r
        obtain ⟨env1, h1, q1, q2, q3⟩ := codeF_sim (lo := th.len) hcall n rf.body _ _ _ _ _ _ _ _ _ (RepE.ent hl) rh hc
        rw [hc] at hx
        obtain ⟨rfl, q4⟩ := endF_sim q1 q2 hx
        rw [rh.len] at q3
        exact ⟨h1, q2, by rw [q3]; exact q4⟩
  | guard g H =>
    simp only at hx ⊢
    cases hl : (Nat.ble args.length g.ntmps && Nat.blt g.t g.ntmps && Nat.ble g.caps.length H.ntmps && Nat.blt H.d H.ntmps && Nat.blt H.r H.ntmps) with
    | false => rw [hl] at hx; simp at hx
    | true =>
      rw [hl, cond_true] at hx
      simp only [Bool.and_eq_true, Nat.ble_eq, Nat.blt_eq] at hl
      obtain ⟨⟨⟨⟨l1, l2⟩, l3⟩, l4⟩, l5⟩ := hl
      rw [rh.len] at hx
      split at hx
      · rename_i te1 th1 tc1 hc
        obtain ⟨env1, h1, q1, q2, q3⟩ := codeF_sim hcall n g.pre _ _ _ _ _ _ _ _ _ (RepE.ent l1) rh hc
        rw [q3]
        simp only
        have hlt : g.t < env1.length := by rw [q1.len]; exact l2
        rw [if_pos hlt]
        have rs : RepE g.ntmps ((g.t, .fn g.df (g.caps.map (evF te1))) :: te1) (env1.set g.t (.fn g.df (g.caps.map (RO.ev env1)))) := by
          rw [q1.ev]
          exact q1.set (d := some g.t) (by simp [inF, Nat.blt_eq, l2]) _
        have lc : (g.caps.map (RO.ev env1)).length ≤ H.ntmps := by simpa using l3
        split at hx
        · rename_i te2 th2 tc2 hc2
          obtain ⟨env2, h2, p1, p2, p3⟩ := codeF_sim hcall n g.post _ _ _ _ _ _ _ _ _ rs q2 hc2
          rw [p3]
          rw [q1.ev] at hx
          exact handF_sim hcall lc l4 l5 p1 p2 hx
        · rename_i te2 th2 tc2 hc2
          obtain ⟨env2, h2, p1, p2, p3⟩ := codeF_sim hcall n g.post _ _ _ _ _ _ _ _ _ rs q2 hc2
          rw [p3]
          rw [q1.ev] at hx
          exact handF_sim hcall lc l4 l5 p1 p2 hx
        · rename_i v te2 th2 tc2 hc2
          obtain ⟨env2, h2, p1, p2, p3⟩ := codeF_sim hcall n g.post _ _ _ _ _ _ _ _ _ rs q2 hc2
          rw [p3]
          rw [q1.ev] at hx
          exact handF_sim hcall lc l4 l5 p1 p2 hx
        · cases hx
      · rename_i te1 th1 tc1 hc
        obtain ⟨env1, h1, q1, q2, q3⟩ := codeF_sim hcall n g.pre _ _ _ _ _ _ _ _ _ (RepE.ent l1) rh hc
        rw [q3]
        obtain ⟨rfl, rfl, q4⟩ := retF_sim q1 q2 hx
        exact ⟨h1, q2, q4⟩
      · rename_i v te1 th1 tc1 hc
        obtain ⟨env1, h1, q1, q2, q3⟩ := codeF_sim hcall n g.pre _ _ _ _ _ _ _ _ _ (RepE.ent l1) rh hc
        rw [q3]
        simp only [Option.some.injEq, Prod.mk.injEq] at hx
        obtain ⟨rfl, rfl, rfl⟩ := hx
        exact ⟨h1, q2, rfl⟩
      · cases hx

theorem funF_sim (tab : Nat → Option XF) : ∀ n, SimC (funF tab n) (xFun tab n)
  | 0 => by intro f args th h out th' tc _ hx; cases hx
  | n + 1 => by
    intro f args th h out th' tc rh hx
    simp only [funF] at hx
    simp only [xFun]
    split at hx
    · rename_i x ht
      rw [ht]
      simp only
      unfold trimF at hx
      unfold xTrim
      split at hx
      · rename_i v th1 hb
        obtain ⟨h1, q1, q2⟩ := bodyF_sim (funF_sim tab n) rh hb
        rw [q2]
        simp only
        cases hp : v.pure with
        | true =>
          rw [hp, cond_true] at hx
          simp only [Option.some.injEq, Prod.mk.injEq] at hx
          obtain ⟨rfl, rfl, rfl⟩ := hx
          exact ⟨h, rh, by simp⟩
        | false =>
          rw [hp, cond_false] at hx
          simp only [Option.some.injEq, Prod.mk.injEq] at hx
          obtain ⟨rfl, rfl, rfl⟩ := hx
          exact ⟨h1, q1, by simp⟩
      · rename_i hne
        obtain ⟨h1, q1, q2⟩ := bodyF_sim (funF_sim tab n) rh hx
        refine ⟨h1, q1, ?_⟩
        rw [q2]
        split
        · rename_i v h2 e
          simp only [Option.some.injEq, Prod.mk.injEq] at e
          obtain ⟨rfl, rfl, rfl⟩ := e
          exact absurd hx (hne _ _)
        · rfl
    · cases hx

/-- **A closed run.** -/
theorem closed_run {P : Program} (hm : P.follows .mixedOrders = true) {tab : Nat → Option XF} (htab : ∀ f x, tab f = some x → x.OK P f) {n f : Nat} {args : List AV} {out : Out} {tc : List Nat}
    (hx : ∃ th, funF tab n f args ⟨0, []⟩ = some (out, th, tc)) : CallsA P f args [] (fun o _ => o = out) := by
  obtain ⟨th, hx⟩ := hx
  obtain ⟨h', _, q⟩ := funF_sim tab n f args ⟨0, []⟩ [] out th tc ⟨rfl, fun p => by simp [lookB, Heap.at]⟩ hx
  exact ((xFun_sound hm htab n _ _ _ _ _ _ (by rfl) q).1).mono fun o h e => e.1
end
end Go.AM

namespace Go.AM
section
variable {P : Program}

open Classical in
/-- A call over no blocks at all, with pure arguments and a pure value, over any blocks. -/
theorem CallsA.lift {f : Nat} {args : List AV} {v : AV} (hc : CallsA P f args [] (fun o _ => o = .ret v)) (ha : pureL args = true) (hv : v.pure = true) (h : Heap) :
    CallsA P f args h (fun o k => o = .ret v ∧ k = h) := by
  refine ⟨hc.1, fun G L I w cargs hs hf hargs => ?_⟩
  let lock : Nat → Prop := fun b => ∃ p kk x, h.at p = some kk ∧ I p = some (b, x)
  let Lc : Lk := ⟨fun b => match L b with
    | some o => some o
    | none => if lock b then w.heap[b]? else none, L.o⟩
  have hLcL : ∀ b, Lc b = none → L b = none := by
    intro b hb
    simp only [Lc] at hb
    cases hl : L b with
    | none => rfl
    | some o => rw [hl] at hb; cases hb
  have hsc : St G Lc (fun _ => none) [] w := by
    constructor
    · exact hs.g
    · intro b o hb
      simp only [Lc] at hb
      cases hl : L b with
      | some o' => rw [hl] at hb; injection hb with hb; subst hb; exact hs.l b _ hl
      | none =>
        rw [hl] at hb
        simp only at hb
        split at hb
        · exact hb
        · cases hb
    · intro b
      rcases hs.dis b with hg | hl
      · exact .inl hg
      · by_cases hlk : lock b
        · obtain ⟨p, kk, x, h1, h3⟩ := hlk
          left
          obtain ⟨base, ext⟩ := x
          exact (hs.ownOf h3 h1).choose_spec.1
        · right
          simp only [Lc, hl]
          rw [if_neg hlk]
    · intro id k hk; simp [Heap.at] at hk
    · intro i j ki kj b x x' hi; simp [Heap.at] at hi
    · exact hs.out
  refine (hc.2 G Lc (fun _ => none) w cargs hsc (fun _ _ => rfl) (VRs_pure args cargs ha hargs)).mono ?_
  rintro e w' ⟨G', I', out, h', rfl, g1, g2, g3, g4, g5, g6⟩
  have locked : ∀ id kk b x, h.at id = some kk → I id = some (b, x) → ∃ o, w.heap[b]? = some o ∧ w'.heap[b]? = some o ∧ G' b = none := by
    intro id kk b x h1 h3
    obtain ⟨base, ext⟩ := x
    obtain ⟨o, k1, k2, k3, k4⟩ := hs.ownOf h3 h1
    have hl : Lc b = some o := by
      simp only [Lc, k2]
      rw [if_pos ⟨id, kk, _, h1, h3⟩]; exact k3
    refine ⟨o, k3, g5.l b o hl, ?_⟩
    rcases g5.dis b with q | q
    · exact q
    · rw [hl] at q; cases q
  refine ⟨G', I, .ret v, h, ⟨rfl, rfl⟩, g1, fun _ _ => rfl, Nat.le_refl _, hf, ⟨g5.g, fun b o hb => g5.l b o (by simp only [Lc, hb]), fun b => ?_, fun id k hid => ?_, hs.inj, g5.out⟩, ?_⟩
  · rcases g5.dis b with q | q
    · exact .inl q
    · exact .inr (hLcL b q)
  · rcases hs.own id k hid with ⟨e1, e2⟩ | ⟨b, base, ext, o, k1, k2, k3, k4, k5⟩
    · exact .inl ⟨e1, e2⟩
    · obtain ⟨o', q1, q2, q3⟩ := locked id k b _ hid k1
      rw [k4] at q1; injection q1 with q1; subst q1
      exact .inr ⟨b, base, ext, o, k1, q3, k3, q2, BR_mono g1 (Inj.le_refl I) k5⟩
  · cases e with
    | returned c => exact VR_pure v c hv g6
    | panicked ch => exact g6.elim
    | outgrown => exact g6.elim
end
end Go.AM

namespace Go.AM

/-! Walks over slots as a list of what was written: the layer that proofs of functions use. -/

theorem CallsA_mono' {P : Program} {f : Nat} {args : List AV} {h : Heap} {R R' : Out → Heap → Prop} (hr : ∀ o h', R o h' → R' o h') (hc : CallsA P f args h R) : CallsA P f args h R' := hc.mono hr

section
variable {P : Program} {n0 : Nat}
theorem wpOp_mono {o : ROper} {Q Q' : Post} (hq : ∀ e env h, Q e env h → Q' e env h) {c c' : List AV → Heap → Prop} (hc : ∀ env h, c env h → c' env h) {env : List AV} {h : Heap} (hw : wpOp P n0 o Q c env h) : wpOp P n0 o Q' c' env h := by
  unfold wpOp at hw ⊢
  split at hw
  · rename_i f args hop
    obtain ⟨env', h', w', hk⟩ := hw
    refine ⟨env', h', w', ?_⟩
    split at hk
    · refine hk.mono ?_
      rintro out h2 hx
      cases out with
      | ret v => exact hc _ _ hx
      | pan v => exact hq _ _ _ hx
    · exact hk.elim
  · split at hw
    · exact hq _ _ _ hw
    · exact hw.elim
  · split at hw
    · exact ⟨hw.1, hc _ _ hw.2⟩
    · split at hw
      · exact ⟨hw.1, hw.2.1, fun b => hc _ _ (hw.2.2 b)⟩
      · exact hw.elim

theorem wpOps_mono {Q Q' : Post} (hq : ∀ e env h, Q e env h → Q' e env h) : ∀ (os : List ROper) (env : List AV) (h : Heap), wpOps P n0 Q os env h → wpOps P n0 Q' os env h
  | [], env, h, hw => hq _ _ _ hw
  | o :: os, env, h, hw => by
    have ih := wpOps_mono hq os
    unfold wpOps at hw ⊢
    split at hw
    · exact wpOp_mono hq ih hw
    · split at hw
      · exact ⟨fun e => wpOp_mono hq ih (hw.1 e), fun e => ih _ _ (hw.2 e)⟩
      · exact ih _ _ hw
      · exact hw.elim

def drawGo (P : Program) (bef : List Nat) (K : List AV → Heap → Prop) (o : ROper) (os : List ROper) (i : Nat) (log : List LogE) (env : List AV) (h : Heap) : Prop :=
  match o.op with
  | .panic _ => False
  | .call f args => match f.ev env with
    | .fn k caps => ∃ v uo news, CallsA P k (args.map (RO.ev env) ++ caps) (vw bef i log (o.op.foot env) h) (fun out h' => out = .ret v ∧ h' = (vw bef i log (o.op.foot env) h).upd (uo ++ newsU h.length news)) ∧
        (uo.map (·.1)).all (fun p => decide (p < h.length) && wchkB bef i log p) = true ∧
        (bndL h.length (args.map (RO.ev env) ++ caps) && heapBnd h.length (vw bef i log (o.op.foot env) h)) = true ∧
        DrawOK P bef K os (i + 1) (log ++ [⟨o.op.foot env, h.length, h.length + news.length, uo.map (·.1) ++ List.range' h.length news.length⟩]) (setD env o.dst v) (h.upd (uo ++ newsU h.length news))
    | _ => False
  | r => match r.run env (vw bef i log (o.op.foot env) h) h.length with
    | some (c, v, u) => c = true ∧ (u.map (·.1)).all (fun p => decide (h.length ≤ p) || wchkB bef i log p) = true ∧
        DrawOK P bef K os (i + 1) (log ++ [⟨o.op.foot env, h.length, (h.upd u).length, u.map (·.1)⟩]) (setD env o.dst v) (h.upd u)
    | none => False

theorem DrawOK_cons {bef : List Nat} {K : List AV → Heap → Prop} (o : ROper) (os : List ROper) (i : Nat) (log : List LogE) (env : List AV) (h : Heap) : DrawOK P bef K (o :: os) i log env h =
    (match o.guard with
    | none => drawGo P bef K o os i log env h
    | some (d, want) => match env.getD d .undef with
      | .bool b => ((b == want) = true → drawGo P bef K o os i log env h) ∧ ((b == want) = false → DrawOK P bef K os (i + 1) (log ++ [⟨o.op.foot env, h.length, h.length, []⟩]) (setD env o.dst (.tup [])) h)
      | .tup _ => DrawOK P bef K os (i + 1) (log ++ [⟨o.op.foot env, h.length, h.length, []⟩]) (setD env o.dst (.tup [])) h
      | _ => False) := rfl

theorem DrawOK_mono {bef : List Nat} {K K' : List AV → Heap → Prop} (hk : ∀ env h, K env h → K' env h) : ∀ (os : List ROper) (i : Nat) (log : List LogE) (env : List AV) (h : Heap), DrawOK P bef K os i log env h → DrawOK P bef K' os i log env h
  | [], i, log, env, h, hw => hk _ _ hw
  | o :: os, i, log, env, h, hw => by
    have ih := DrawOK_mono (bef := bef) hk os
    have go : drawGo P bef K o os i log env h → drawGo P bef K' o os i log env h := by
      intro hg
      unfold drawGo at hg ⊢
      split at hg
      · exact hg.elim
      · split at hg
        · obtain ⟨v, uo, news, g1, g2, g3, g4⟩ := hg
          exact ⟨v, uo, news, g1, g2, g3, ih _ _ _ _ g4⟩
        · exact hg.elim
      · split at hg
        · exact ⟨hg.1, hg.2.1, ih _ _ _ _ hg.2.2⟩
        · exact hg.elim
    rw [DrawOK_cons] at hw ⊢
    cases hgd : o.guard with
    | none => rw [hgd] at hw; exact go hw
    | some p =>
      obtain ⟨d, want⟩ := p
      rw [hgd] at hw
      simp only at hw ⊢
      split at hw
      · exact ⟨fun e => go (hw.1 e), fun e => ih _ _ _ _ (hw.2 e)⟩
      · exact ih _ _ _ _ hw
      · exact hw.elim

theorem wpA_mono : ∀ {Q Q' : Post} (hq : ∀ e env h, Q e env h → Q' e env h) (c : RCode) (env : List AV) (h : Heap), wpA P n0 c Q env h → wpA P n0 c Q' env h := by
  intro Q Q' hq c
  induction c generalizing Q Q' with
  | skip => intro env h hw; exact hq _ _ _ hw
  | reg draw bef ops =>
    intro env h hw
    cases draw with
    | true => exact DrawOK_mono (hq .normal) _ _ _ _ _ hw
    | false => exact wpOps_mono hq _ _ _ hw
  | seq a b iha ihb =>
    intro env h hw
    refine iha (fun e env h hx => ?_) env h hw
    cases e with
    | normal => obtain ⟨env', h', w, hb⟩ := hx; exact ⟨env', h', w, ihb hq env' h' hb⟩
    | _ => exact hq _ _ _ hx
  | cond c a b iha ihb =>
    intro env h hw
    simp only [wpA] at hw ⊢
    split at hw
    · exact ⟨fun e => iha hq _ _ (hw.1 e), fun e => ihb hq _ _ (hw.2 e)⟩
    · exact hw.elim
  | block id b ih =>
    intro env h hw
    refine ih (fun e env h hx => ?_) env h hw
    cases e with
    | exit id' =>
      simp only [blockA] at hx ⊢
      split at hx
      · rename_i e; rw [if_pos e]; exact hq _ _ _ hx
      · rename_i e; rw [if_neg e]; exact hq _ _ _ hx
    | _ => exact hq _ _ _ hx
  | loop b ih =>
    intro env h hw
    obtain ⟨J, h1, h2⟩ := hw
    refine ⟨J, h1, fun n env h hj => ih (fun e env h hx => ?_) env h (h2 n env h hj)⟩
    cases e with
    | normal => exact hx
    | _ => exact hq _ _ _ hx
  | exit id => intro env h hw; exact hq _ _ _ hw
  | ret => intro env h hw; exact hq _ _ _ hw
end

abbrev QE := AExit → AEnv → Heap → Prop

/-- A ghost step. -/
def WkE (n0 nt : Nat) (te : AEnv) (h : Heap) (te' : AEnv) (h' : Heap) : Prop := ∀ env, RepE nt te env → ∃ env', RepE nt te' env' ∧ Wk n0 env h env' h'

theorem WkE.refl {n0 nt : Nat} {te : AEnv} {h : Heap} : WkE n0 nt te h te h := fun env r => ⟨env, r, Wk.refl⟩
theorem WkE.trans {n0 nt : Nat} {a b c : AEnv} {h k l : Heap} (x : WkE n0 nt a h b k) (y : WkE n0 nt b k c l) : WkE n0 nt a h c l := by
  intro env r
  obtain ⟨e1, r1, w1⟩ := x env r
  obtain ⟨e2, r2, w2⟩ := y e1 r1
  exact ⟨e2, r2, w1.trans w2⟩

/-- What goes on behind an operation. -/
def stepK (next : AEnv → Heap → Prop) (nt : Nat) (d : Option Nat) (te : AEnv) (h : Heap) : Res → Prop
  | some (c, v, u) => inF nt d = true ∧ c = true ∧ next (setF te d v) (h.upd u)
  | none => False

def callE (P : Program) (n0 nt : Nat) (Q : QE) (d : Option Nat) (f : RO) (args : List RO) (next : AEnv → Heap → Prop) (te : AEnv) (h : Heap) : Prop :=
  inF nt d = true ∧ ∃ te' h', WkE n0 nt te h te' h' ∧ ∃ k caps, evF te' f = .fn k caps ∧ CallsA P k (args.map (evF te') ++ caps) h' fun out h'' => match out with
    | .ret v => next (setF te' d v) h''
    | .pan v => Q (.panic v) te' h''

def panE (Q : QE) (te : AEnv) (h : Heap) : AV → Prop
  | .iface t v => Q (.panic (.iface t v)) te h
  | _ => False

def nilE (nt : Nat) (neg : Bool) (d : Option Nat) (next : AEnv → Heap → Prop) (te : AEnv) (h : Heap) (v : AV) (r : Res) : Prop :=
  match v.isEmp with
  | true => inF nt d = true ∧ ∀ b, next (setF te d (.bool b)) h
  | false => stepK next nt d te h r

def opE (P : Program) (n0 nt : Nat) (Q : QE) (d : Option Nat) (op : ROp) (next : AEnv → Heap → Prop) (te : AEnv) (h : Heap) : Prop :=
  match op with
  | .call f args => callE P n0 nt Q d f args next te h
  | .panic x => panE Q te h (evF te x)
  | .isnil 1 neg x => nilE nt neg d next te h (evF te x) ((ROp.isnil 1 neg x).runG (evF te) h.at h.length)
  | r => stepK next nt d te h (r.runG (evF te) h.at h.length)

def guardE (go skip : Prop) (want : Bool) : AV → Prop
  | .bool b => ((b == want) = true → go) ∧ ((b == want) = false → skip)
  | .tup _ => skip
  | _ => False

def opsE (P : Program) (n0 nt : Nat) (Q : QE) : List ROper → AEnv → Heap → Prop
  | [], te, h => Q .normal te h
  | o :: os, te, h => match o.guard with
    | none => opE P n0 nt Q o.dst o.op (opsE P n0 nt Q os) te h
    | some (g, want) => guardE (opE P n0 nt Q o.dst o.op (opsE P n0 nt Q os) te h) (inF nt o.dst = true ∧ opsE P n0 nt Q os (setF te o.dst (.tup [])) h) want (lookE te g)

/-- A region that draws its order and only reads: in the order of the text. -/
def rdK (next : AEnv → Prop) (nt : Nat) (d : Option Nat) (te : AEnv) : Res → Prop
  | some (c, v, u) => inF nt d = true ∧ c = true ∧ u = [] ∧ next (setF te d v)
  | none => False

def rdCall (P : Program) (nt : Nat) (d : Option Nat) (f : RO) (args : List RO) (next : AEnv → Prop) (te : AEnv) : Prop :=
  inF nt d = true ∧ ∃ k caps v, evF te f = .fn k caps ∧ pureL (args.map (evF te) ++ caps) = true ∧ v.pure = true ∧ CallsA P k (args.map (evF te) ++ caps) [] (fun o _ => o = .ret v) ∧ next (setF te d v)

def rdOp (P : Program) (nt : Nat) (d : Option Nat) (op : ROp) (next : AEnv → Prop) (te : AEnv) (h : Heap) : Prop :=
  match op with
  | .call f args => rdCall P nt d f args next te
  | .panic _ => False
  | r => rdK next nt d te (r.runG (evF te) h.at h.length)

def rdE (P : Program) (nt : Nat) (K : AEnv → Heap → Prop) : List ROper → AEnv → Heap → Prop
  | [], te, h => K te h
  | o :: os, te, h => match o.guard with
    | none => rdOp P nt o.dst o.op (fun te => rdE P nt K os te h) te h
    | some (g, want) => guardE (rdOp P nt o.dst o.op (fun te => rdE P nt K os te h) te h) (inF nt o.dst = true ∧ rdE P nt K os (setF te o.dst (.tup [])) h) want (lookE te g)

def thenE (next : AEnv → Heap → Prop) (Q : QE) : QE := fun e te h => match e with
  | .normal => next te h
  | e => Q e te h

def blockE (id : Nat) (Q : QE) : QE := fun e te h => match e with
  | .exit id' => if id' = id then Q .normal te h else Q (.exit id') te h
  | e => Q e te h

def roundE (n0 nt : Nat) (I : Nat → AEnv → Heap → Prop) (n : Nat) (te : AEnv) (h : Heap) : Prop := ∃ m te' h', m < n ∧ WkE n0 nt te h te' h' ∧ I m te' h'

def condE (A B : Prop) : AV → Prop
  | .bool t => (t = true → A) ∧ (t = false → B)
  | _ => False

/-- A drawn region: read only, or by DrawOK itself. -/
def drawE (P : Program) (nt : Nat) (bef : List Nat) (K : AEnv → Heap → Prop) (ops : List ROper) (te : AEnv) (h : Heap) : Prop :=
  rdE P nt K ops te h ∨ ∀ env, RepE nt te env → DrawOK P bef (fun env h => ∃ te, RepE nt te env ∧ K te h) ops 0 [] env h

def codeE (P : Program) (n0 nt : Nat) : RCode → QE → AEnv → Heap → Prop
  | .skip, Q, te, h => Q .normal te h
  | .reg true bef ops, Q, te, h => drawE P nt bef (Q .normal) ops te h
  | .reg false _ ops, Q, te, h => opsE P n0 nt Q ops te h
  | .seq a b, Q, te, h => codeE P n0 nt a (thenE (codeE P n0 nt b Q) Q) te h
  | .cond c a b, Q, te, h => condE (codeE P n0 nt a Q te h) (codeE P n0 nt b Q te h) (evF te c)
  | .block id b, Q, te, h => codeE P n0 nt b (blockE id Q) te h
  | .loop b, Q, te, h => ∃ I : Nat → AEnv → Heap → Prop, (∃ n te' h', WkE n0 nt te h te' h' ∧ I n te' h') ∧ ∀ n te h, I n te h → codeE P n0 nt b (thenE (roundE n0 nt I n) Q) te h
  | .exit id, Q, te, h => Q (.exit id) te h
  | .ret, Q, te, h => Q .ret te h

def resE1 (te : AEnv) (h : Heap) : RRes → Option AV
  | .t n => some (lookE te n)
  | .cell n ag => match lookE te n with
    | .ptr id off => match h.at id with
      | some (.cells cs) => part ag cs off
      | _ => none
    | .vptr cs off => part ag cs off
    | _ => none
def resEs (te : AEnv) (h : Heap) : List RRes → Option (List AV)
  | [] => some []
  | r :: rs => match resE1 te h r, resEs te h rs with
    | some v, some vs => some (v :: vs)
    | _, _ => none
def resE (rs : List RRes) (te : AEnv) (h : Heap) : Option AV :=
  match resEs te h rs with
  | some [v] => some v
  | some vs => some (.tup vs)
  | none => none

/-- At a function's end. -/
def retE (n0 nt : Nat) (rs : List RRes) (R : Out → Heap → Prop) : QE := fun e te h => match e with
  | .normal | .ret => ∃ te' h' v, WkE n0 nt te h te' h' ∧ resE rs te' h' = some v ∧ R (.ret v) h'
  | .panic v => R (.pan v) h
  | .exit _ => False

/-! ### Sound -/

def liftQ (nt : Nat) (Q : QE) : Post := fun e env h => ∃ te, RepE nt te env ∧ Q e te h

section
variable {P : Program} {n0 nt : Nat}

theorem runG_rep {te : AEnv} {env : List AV} (r : RepE nt te env) (op : ROp) (h : Heap) (n : Nat) : op.runG (evF te) h.at n = op.run env h n := by
  rw [r.ev]; exact runG_eq env h n op

theorem thenE_le {next : AEnv → Heap → Prop} {nextA : List AV → Heap → Prop} (hn : ∀ te env h, RepE nt te env → next te h → nextA env h) {Q : QE} (e : AExit) (env : List AV) (h : Heap) (hq : liftQ nt (thenE next Q) e env h) : thenA nextA (liftQ nt Q) e env h := by
  obtain ⟨te, r, hq⟩ := hq
  cases e with
  | normal => exact hn te env h r hq
  | _ => exact ⟨te, r, hq⟩

theorem stepK_sound {next : AEnv → Heap → Prop} {nextA : List AV → Heap → Prop} (hn : ∀ te env h, RepE nt te env → next te h → nextA env h) {d : Option Nat} {te : AEnv} {env : List AV} {h : Heap} (r : RepE nt te env) {op : ROp}
    (hw : stepK next nt d te h (op.runG (evF te) h.at h.length)) : match op.run env h h.length with | some (c, v, u) => c = true ∧ nextA (setD env d v) (h.upd u) | none => False := by
  rw [runG_rep r] at hw
  cases hr : op.run env h h.length with
  | none => rw [hr] at hw; exact hw.elim
  | some p =>
    obtain ⟨c, v, u⟩ := p
    rw [hr] at hw
    exact ⟨hw.2.1, hn _ _ _ (r.set hw.1 v) hw.2.2⟩

theorem opE_sound {Q : QE} {next : AEnv → Heap → Prop} {nextA : List AV → Heap → Prop} (hn : ∀ te env h, RepE nt te env → next te h → nextA env h) {o : ROper} {te : AEnv} {env : List AV} {h : Heap} (r : RepE nt te env)
    (hw : opE P n0 nt Q o.dst o.op next te h) : wpOp P n0 o (liftQ nt Q) nextA env h := by
  unfold opE at hw
  unfold wpOp
  split at hw
  · rename_i f args hop
    rw [hop]
    obtain ⟨hd, te', h', hwk, k, caps, hf, hc⟩ := hw
    obtain ⟨env', r', w'⟩ := hwk env r
    refine ⟨env', h', w', ?_⟩
    rw [← r'.ev, hf]
    simp only
    refine hc.mono ?_
    rintro out h2 hq
    cases out with
    | ret v => exact hn _ _ _ (r'.set hd v) hq
    | pan v => exact ⟨te', r', hq⟩
  · rename_i x hop
    rw [hop]
    simp only
    rw [r.ev] at hw
    unfold panE at hw
    split at hw
    · rename_i t v hv
      rw [hv]; exact ⟨te, r, hw⟩
    · exact hw.elim
  · rename_i neg x hop
    rw [hop]
    simp only
    unfold nilE at hw
    split at hw
    · rename_i he
      rw [r.ev] at he
      have hnone : (ROp.isnil 1 neg x).run env h h.length = none := by
        simp only [ROp.run]
        cases hx : x.ev env <;> rw [hx] at he <;> simp only [AV.isEmp, Bool.false_eq_true] at he
        · rfl
        · rename_i sz es
          cases es with
          | nil => rfl
          | cons _ _ => simp at he
        · rename_i id off ln sz
          cases ln with
          | zero => rfl
          | succ _ => simp at he
      rw [hnone]
      exact ⟨trivial, he, fun b => hn _ _ _ (r.set hw.1 _) (hw.2 b)⟩
    · have := stepK_sound (op := .isnil 1 neg x) hn r hw
      cases hr : (ROp.isnil 1 neg x).run env h h.length with
      | none => rw [hr] at this; exact this.elim
      | some p => rw [hr] at this; exact this
  · rename_i n1 n2 n3
    have := stepK_sound hn r hw
    split
    · rename_i f a hop; exact absurd hop (n1 f a)
    · rename_i x hop; exact absurd hop (n2 x)
    · cases hr : o.op.run env h h.length with
      | none => rw [hr] at this; exact this.elim
      | some p => rw [hr] at this; exact this

theorem opsE_sound {Q : QE} : ∀ (os : List ROper) (te : AEnv) (env : List AV) (h : Heap), RepE nt te env → opsE P n0 nt Q os te h → wpOps P n0 (liftQ nt Q) os env h
  | [], te, env, h, r, hw => ⟨te, r, hw⟩
  | o :: os, te, env, h, r, hw => by
    have hn : ∀ te env h, RepE nt te env → opsE P n0 nt Q os te h → wpOps P n0 (liftQ nt Q) os env h := fun te env h r hw => opsE_sound os te env h r hw
    unfold opsE at hw
    unfold wpOps
    split at hw
    · rename_i hg
      rw [hg]
      exact opE_sound hn r hw
    · rename_i g want hg
      rw [hg]
      simp only
      rw [r.get g] at hw
      unfold guardE at hw
      split at hw
      · rename_i b hb
        rw [hb]
        exact ⟨fun e => opE_sound hn r (hw.1 e), fun e => hn _ _ _ (r.set (hw.2 e).1 _) (hw.2 e).2⟩
      · rename_i vs hb
        rw [hb]
        exact hn _ _ _ (r.set hw.1 _) hw.2
      · exact hw.elim


mutual
theorem noId_of_pure : ∀ a : AV, a.pure = true → a.noId = true
  | .agg cs, h => by simp only [AV.pure] at h; simp only [AV.noId]; exact noIdL_of_pure cs h
  | .tup cs, h => by simp only [AV.pure] at h; simp only [AV.noId]; exact noIdL_of_pure cs h
  | .ptr _ _, h => by simp [AV.pure] at h
  | .vptr cs _, h => by simp only [AV.pure] at h; simp only [AV.noId]; exact noIdL_of_pure cs h
  | .lit _ es, h => by simp only [AV.pure] at h; simp only [AV.noId]; exact noIdL_of_pure es h
  | .slice _ _ _ _, h => by simp [AV.pure] at h
  | .mapr _, h => by simp [AV.pure] at h
  | .fn _ cap, h => by simp only [AV.pure] at h; simp only [AV.noId]; exact noIdL_of_pure cap h
  | .iface _ v, h => by simp only [AV.pure] at h; simp only [AV.noId]; exact noId_of_pure v h
  | .bool _, _ | .int _ _, _ | .str _, _ | .nilp, _ | .nils, _ | .emp, _ | .nilmap, _ | .nilfn, _ | .nilif, _ | .undef, _ => rfl
theorem noIdL_of_pure : ∀ l : List AV, pureL l = true → noIdL l = true
  | [], _ => rfl
  | a :: l, h => by
    simp only [pureL, Bool.and_eq_true] at h
    simp only [noIdL, Bool.and_eq_true]
    exact ⟨noId_of_pure a h.1, noIdL_of_pure l h.2⟩
end

mutual
theorem bnd_of_pure (n : Nat) : ∀ a : AV, a.pure = true → a.bnd n = true
  | .agg cs, h => by simp only [AV.pure] at h; simp only [AV.bnd]; exact bndL_of_pure n cs h
  | .tup cs, h => by simp only [AV.pure] at h; simp only [AV.bnd]; exact bndL_of_pure n cs h
  | .ptr _ _, h => by simp [AV.pure] at h
  | .vptr cs _, h => by simp only [AV.pure] at h; simp only [AV.bnd]; exact bndL_of_pure n cs h
  | .lit _ es, h => by simp only [AV.pure] at h; simp only [AV.bnd]; exact bndL_of_pure n es h
  | .slice _ _ _ _, h => by simp [AV.pure] at h
  | .mapr _, h => by simp [AV.pure] at h
  | .fn _ cap, h => by simp only [AV.pure] at h; simp only [AV.bnd]; exact bndL_of_pure n cap h
  | .iface _ v, h => by simp only [AV.pure] at h; simp only [AV.bnd]; exact bnd_of_pure n v h
  | .bool _, _ | .int _ _, _ | .str _, _ | .nilp, _ | .nils, _ | .emp, _ | .nilmap, _ | .nilfn, _ | .nilif, _ | .undef, _ => rfl
theorem bndL_of_pure (n : Nat) : ∀ l : List AV, pureL l = true → bndL n l = true
  | [], _ => rfl
  | a :: l, h => by
    simp only [pureL, Bool.and_eq_true] at h
    simp only [bndL, Bool.and_eq_true]
    exact ⟨bnd_of_pure n a h.1, bndL_of_pure n l h.2⟩
end

theorem only_at (f : Option (List Nat)) (h : Heap) (p : Nat) (hp : ∀ l, f = some l → p ∈ l) : (only f h).at p = h.at p := by
  cases f with
  | none => rfl
  | some l =>
    simp only [only]
    rw [onlyAux_at, if_pos (by simpa using hp l rfl)]

theorem only_sub (f : Option (List Nat)) (h : Heap) : (only f h).sub h := by
  intro p k hk
  cases f with
  | none => exact hk
  | some l =>
    simp only [only] at hk
    rw [onlyAux_at] at hk
    split at hk
    · exact hk
    · cases hk

/-- An operation looks at its footprint alone. -/
theorem run_only (env : List AV) (h : Heap) (n : Nat) (r : ROp) : r.run env (only (r.foot env) h) n = r.run env h n := by
  by_cases hd : r.heapy = false
  · exact (run_dull r hd _ n).1
  · cases r <;> simp only [ROp.heapy, not_true_eq_false, Bool.true_eq_false, not_false_eq_true] at hd <;> (try rfl)
    case load ag a =>
      simp only [ROp.run, ROp.foot]
      cases hx : a.ev env <;> (try rfl)
      simp only
      rw [only_at _ _ _ (by intro l hl; injection hl with hl; subst hl; simp [AV.idOf])]
    case store m a x =>
      simp only [ROp.run, ROp.foot]
      cases hx : a.ev env <;> (try rfl)
      simp only
      rw [only_at _ _ _ (by intro l hl; injection hl with hl; subst hl; simp [AV.idOf])]
    case slcA m sz x =>
      simp only [ROp.run, ROp.foot]
      cases hx : x.ev env <;> (try rfl)
      simp only
      rw [only_at _ _ _ (by intro l hl; injection hl with hl; subst hl; simp [AV.idOf])]
    case clr sz z x =>
      simp only [ROp.run, ROp.foot]
      cases hx : x.ev env <;> (try rfl)
      simp only
      rw [only_at _ _ _ (by intro l hl; injection hl with hl; subst hl; simp [AV.idOf])]
    case len k x =>
      have hk : k = 2 := by simpa using hd
      subst hk
      simp only [ROp.run, ROp.foot]
      cases hx : x.ev env <;> (try rfl)
      simp only
      rw [only_at _ _ _ (by intro l hl; injection hl with hl; subst hl; simp [AV.idOf])]
    case app sz by_ s x =>
      simp only [ROp.run, ROp.foot]
      have e1 : sliceCells (only (some ((s.ev env).idOf ++ (x.ev env).idOf)) h) sz (x.ev env) = sliceCells h sz (x.ev env) := by
        cases hx : x.ev env <;> (try rfl)
        simp only [sliceCells]
        rw [only_at _ _ _ (by intro l hl; injection hl with hl; subst hl; simp [AV.idOf])]
      rw [e1]
      cases sliceCells h sz (x.ev env) with
      | none => rfl
      | some mn =>
        obtain ⟨m, news⟩ := mn
        simp only
        cases hx : s.ev env <;> (try rfl)
        simp only
        rw [only_at _ _ _ (by intro l hl; injection hl with hl; subst hl; simp [AV.idOf])]
    case look ag z ok m k =>
      simp only [ROp.run, ROp.foot]
      cases hx : m.ev env <;> (try rfl)
      simp only
      rw [only_at _ _ _ (by intro l hl; injection hl with hl; subst hl; simp [AV.idOf])]
    case mupd ag m k v =>
      simp only [ROp.run, ROp.foot]
      cases hx : m.ev env <;> (try rfl)
      simp only
      rw [only_at _ _ _ (by intro l hl; injection hl with hl; subst hl; simp [AV.idOf])]

theorem masked_nil (bef : List Nat) (i : Nat) : ∀ (log : List LogE) (j : Nat), (∀ l ∈ log, l.tc = []) → masked bef i log j = []
  | [], _, _ => rfl
  | l :: ls, j, h => by
    simp only [masked, h l (by simp), masked_nil bef i ls (j + 1) (fun x hx => h x (by simp [hx])), ite_self, List.append_nil]

theorem vw_quiet (bef : List Nat) (i : Nat) {log : List LogE} (hl : ∀ l ∈ log, l.tc = []) (f : Option (List Nat)) (h : Heap) : vw bef i log f h = only f h := by
  unfold vw
  rw [masked_nil bef i log 0 hl]
  rfl

theorem heapBnd_only_nil (n : Nat) (h : Heap) : heapBnd n (only (some []) h) = true := by
  rw [heapBnd_iff]
  intro p k hk
  simp only [only] at hk
  rw [onlyAux_at] at hk
  simp at hk

theorem rdE_sound {K : AEnv → Heap → Prop} {KA : List AV → Heap → Prop} (hK : ∀ te env h, RepE nt te env → K te h → KA env h) (bef : List Nat) : ∀ (os : List ROper) (i : Nat) (log : List LogE) (te : AEnv) (env : List AV) (h : Heap), RepE nt te env → (∀ l ∈ log, l.tc = []) →
    rdE P nt K os te h → DrawOK P bef KA os i log env h
  | [], i, log, te, env, h, r, hl, hw => hK te env h r hw
  | o :: os, i, log, te, env, h, r, hl, hw => by
    have ih := fun (te : AEnv) (env : List AV) (x : LogE) (hx : x.tc = []) (r : RepE nt te env) (hw : rdE P nt K os te h) => rdE_sound hK bef os (i + 1) (log ++ [x]) te env h r (by
      intro l hm
      rcases List.mem_append.1 hm with hm | hm
      · exact hl l hm
      · simp at hm; subst hm; exact hx) hw
    have go : rdOp P nt o.dst o.op (fun te => rdE P nt K os te h) te h → drawGo P bef KA o os i log env h := by
      intro hg
      unfold drawGo
      unfold rdOp at hg
      split at hg
      · rename_i f args hop
        rw [hop]
        obtain ⟨hd, k, caps, v, hf, hp, hv, hc, hn⟩ := hg
        rw [r.ev] at hf hp hc
        simp only [hf]
        have hfoot : (ROp.call f args).foot env = some [] := by
          simp only [ROp.foot, hf]
          rw [pureL_all, List.all_append, Bool.and_eq_true, ← pureL_all, ← pureL_all] at hp
          simp only [AV.noId, noIdL_of_pure _ hp.1, noIdL_of_pure _ hp.2, Bool.and_self, if_true]
        rw [hfoot, vw_quiet bef i hl]
        refine ⟨v, [], [], ?_, rfl, ?_, ?_⟩
        · refine (hc.lift hp hv _).mono ?_
          rintro out k' ⟨rfl, rfl⟩
          exact ⟨rfl, rfl⟩
        · rw [bndL_of_pure _ _ hp, heapBnd_only_nil]; rfl
        · exact ih _ _ _ rfl (r.set hd v) hn
      · exact hg.elim
      · rename_i n1 n2
        rw [runG_rep r] at hg
        split
        · rename_i x hop; exact absurd hop (n2 x)
        · rename_i f a hop; exact absurd hop (n1 f a)
        · rw [vw_quiet bef i hl, run_only]
          cases hr : o.op.run env h h.length with
          | none => rw [hr] at hg; exact hg.elim
          | some p =>
            obtain ⟨c, v, u⟩ := p
            rw [hr] at hg
            obtain ⟨hd, rfl, rfl, hn⟩ := hg
            exact ⟨rfl, rfl, ih _ _ _ rfl (r.set hd v) hn⟩
    unfold rdE at hw
    rw [DrawOK_cons]
    cases hgd : o.guard with
    | none =>
      rw [hgd] at hw
      exact go hw
    | some p =>
      obtain ⟨g, want⟩ := p
      rw [hgd] at hw
      simp only at hw ⊢
      rw [r.get g] at hw
      unfold guardE at hw
      split at hw
      · rename_i b hb
        exact ⟨fun e => go (hw.1 e), fun e => ih _ _ _ rfl (r.set (hw.2 e).1 _) (hw.2 e).2⟩
      · rename_i vs hb
        exact ih _ _ _ rfl (r.set hw.1 _) hw.2
      · exact hw.elim

/-- **The layer is sound.** -/
theorem codeE_sound : ∀ (c : RCode) (Q : QE) (te : AEnv) (env : List AV) (h : Heap), RepE nt te env → codeE P n0 nt c Q te h → wpA P n0 c (liftQ nt Q) env h := by
  intro c
  induction c with
  | skip => intro Q te env h r hw; exact ⟨te, r, hw⟩
  | reg draw bef ops =>
    intro Q te env h r hw
    cases draw with
    | true =>
      simp only [codeE] at hw
      simp only [wpA]
      rcases hw with hw | hw
      · exact rdE_sound (fun te env h r hk => ⟨te, r, hk⟩) bef ops 0 [] te env h r (by simp) hw
      · exact hw env r
    | false =>
      simp only [codeE] at hw
      exact opsE_sound ops te env h r hw
  | seq a b iha ihb =>
    intro Q te env h r hw
    simp only [codeE] at hw
    simp only [wpA]
    have := iha _ te env h r hw
    refine wpA_mono (fun e env h hq => ?_) a env h this
    exact thenE_le (fun te env h r hn => ⟨env, h, Wk.refl, ihb Q te env h r hn⟩) e env h hq
  | cond c a b iha ihb =>
    intro Q te env h r hw
    simp only [codeE, condE] at hw
    simp only [wpA]
    rw [r.ev] at hw
    split at hw
    · rename_i t ht
      rw [ht]
      exact ⟨fun e => iha Q te env h r (hw.1 e), fun e => ihb Q te env h r (hw.2 e)⟩
    · exact hw.elim
  | block id b ih =>
    intro Q te env h r hw
    simp only [codeE] at hw
    simp only [wpA]
    refine wpA_mono (fun e env h hq => ?_) b env h (ih _ te env h r hw)
    obtain ⟨te', r', hq⟩ := hq
    cases e with
    | exit id' =>
      simp only [blockE] at hq
      simp only [blockA]
      split at hq
      · rename_i e; rw [if_pos e]; exact ⟨te', r', hq⟩
      · rename_i e; rw [if_neg e]; exact ⟨te', r', hq⟩
    | _ => exact ⟨te', r', hq⟩
  | loop b ih =>
    intro Q te env h r hw
    simp only [codeE] at hw
    simp only [wpA]
    obtain ⟨J, ⟨n, te', h', hwk, hJ⟩, hr⟩ := hw
    obtain ⟨env', r', w'⟩ := hwk env r
    refine ⟨fun n env h => ∃ te, RepE nt te env ∧ J n te h, ⟨n, env', h', w', te', r', hJ⟩, ?_⟩
    rintro n env h ⟨te, r, hj⟩
    refine wpA_mono (fun e env h hq => ?_) b env h (ih _ te env h r (hr n te h hj))
    refine thenE_le (fun te env h r hn => ?_) e env h hq
    obtain ⟨m, te2, h2, hm, hwk2, hj2⟩ := hn
    obtain ⟨env2, r2, w2⟩ := hwk2 env r
    exact ⟨m, env2, h2, hm, w2, te2, r2, hj2⟩
  | exit id => intro Q te env h r hw; exact ⟨te, r, hw⟩
  | ret => intro Q te env h r hw; exact ⟨te, r, hw⟩

theorem resE_rep {te : AEnv} {env : List AV} (r : RepE nt te env) (h : Heap) (rs : List RRes) : resE rs te h = resA rs env h := by
  have one : ∀ x, resE1 te h x = resOne env h x := by
    intro x
    cases x with
    | t n => simp only [resE1, resOne, r.get n]
    | cell n ag => simp only [resE1, resOne, r.get n] <;> rfl
  have all : ∀ l, resEs te h l = resAll env h l := by
    intro l
    induction l with
    | nil => rfl
    | cons x l ih => simp only [resEs, resAll, one, ih] <;> rfl
  unfold resE resA
  rw [all]
  rfl

theorem retE_sound {rs : List RRes} {R : Out → Heap → Prop} (e : AExit) (env : List AV) (h : Heap) (hq : liftQ nt (retE n0 nt rs R) e env h) : retA n0 rs R e env h := by
  obtain ⟨te, r, hq⟩ := hq
  have main : (∃ te' h' v, WkE n0 nt te h te' h' ∧ resE rs te' h' = some v ∧ R (.ret v) h') → ∃ env' h', Wk n0 env h env' h' ∧ match resA rs env' h' with | some v => R (.ret v) h' | none => False := by
    rintro ⟨te', h', v, hwk, hv, hR⟩
    obtain ⟨env', r', w'⟩ := hwk env r
    exact ⟨env', h', w', by rw [← resE_rep r', hv]; exact hR⟩
  cases e with
  | normal => exact main hq
  | ret => exact main hq
  | panic v => exact hq
  | exit id => exact hq

/-- **A function's contract, out of a walk of its code.** -/
theorem callsA_of_codeE (hm : P.follows .mixedOrders = true) {f : FuncId} {fn : Func} (hf : P.funcs[f]? = some fn) {rf : RFunc} (hc : kFunc P fn = some rf) {args : List AV} {h : Heap} {R : Out → Heap → Prop}
    (hl : args.length ≤ rf.ntmps) (hw : codeE P h.length rf.ntmps rf.body (retE h.length rf.ntmps rf.res R) (entF args rf.ntmps) h) : CallsA P f args h R := by
  refine callsA_of_wpA hm hf hc ?_
  refine wpA_mono (fun e env h hq => retE_sound e env h hq) _ _ _ (codeE_sound _ _ _ _ _ (RepE.ent hl) hw)

theorem RepE.num {args : List AV} (hl : args.length ≤ nt) : RepE nt (numF 0 args) (args ++ List.replicate (nt - args.length) .undef) := by
  have key : ∀ (args : List AV) (i t : Nat), lookE (numF i args) t = if i ≤ t then args.getD (t - i) .undef else .undef := by
    intro args
    induction args with
    | nil => intro i t; simp [numF, lookE]
    | cons a as ih =>
      intro i t
      simp only [numF, lookE]
      cases hb : Nat.beq i t with
      | true =>
        have e : i = t := Nat.eq_of_beq_eq_true hb
        subst e; simp
      | false =>
        have hne : i ≠ t := fun e => by subst e; rw [Nat.beq_refl] at hb; cases hb
        rw [cond_false, ih]
        by_cases h1 : i ≤ t
        · rw [if_pos (by omega), if_pos h1]
          have : t - i = (t - (i + 1)) + 1 := by omega
          rw [this]; rfl
        · rw [if_neg (by omega), if_neg h1]
  refine ⟨by simp; omega, fun t => ?_⟩
  rw [key, if_pos (Nat.zero_le _)]
  simp only [Nat.sub_zero, List.getD, List.getElem?_append]
  split
  · rfl
  · rename_i hge
    rw [List.getElem?_eq_none (by omega)]
    rw [List.getElem?_replicate]
    split <;> rfl

/-- The same; slots that are not written yet are not told. -/
theorem callsA_of_code (hm : P.follows .mixedOrders = true) {f : FuncId} {fn : Func} (hf : P.funcs[f]? = some fn) {rf : RFunc} (hc : kFunc P fn = some rf) {args : List AV} {h : Heap} {R : Out → Heap → Prop}
    (hl : args.length ≤ rf.ntmps) (hw : codeE P h.length rf.ntmps rf.body (retE h.length rf.ntmps rf.res R) (numF 0 args) h) : CallsA P f args h R := by
  refine callsA_of_wpA_z (z := .undef) (fun _ _ => by simp [VR]) hm hf hc ?_
  refine wpA_mono (fun e env h hq => retE_sound e env h hq) _ _ _ (codeE_sound _ _ _ _ _ (RepE.num hl) hw)
end
end Go.AM

namespace Go.AM

/-! Ghost steps: slots forgotten, blocks given up, named anew, made immutable. `keep`: the blocks that stay, in their new order; `fr`: the blocks that are made immutable. -/

mutual
/-- What an old value is told as. -/
def Wv (h : Heap) (keep fr : List Nat) : AV → AV → Prop
  | .undef, _ => True
  | .bool b, o => o = .bool b
  | .int k n, o => o = .int k n
  | .str s, o => o = .str s
  | .agg cs, o => ∃ os, o = .agg os ∧ Wvs h keep fr cs os
  | .tup cs, o => ∃ os, o = .tup os ∧ Wvs h keep fr cs os
  | .nilp, o => o = .nilp
  | .ptr j off, o => ∃ i, o = .ptr i off ∧ keep[j]? = some i
  | .vptr cs off, o => (o = .vptr cs off ∧ pureL cs = true) ∨ ∃ i os, o = .ptr i off ∧ i ∈ fr ∧ h.at i = some (.cells os) ∧ Wvs h keep fr cs os
  | .nils, o => o = .nils
  | .emp, o => o = .emp
  | .lit sz es, o => (o = .lit sz es ∧ pureL es = true) ∨ (o = .nils ∧ es = []) ∨ (o = .emp ∧ es = []) ∨ ∃ i off ln os, o = .slice i off ln sz ∧ ln = es.length ∧ i ∈ fr ∧ h.at i = some (.cells os) ∧ off + ln * sz ≤ os.length ∧ Wel h keep fr sz es ((os.drop off).take (ln * sz))
  | .slice j off ln sz, o => (∃ i, o = .slice i off ln sz ∧ keep[j]? = some i) ∨ (ln = 0 ∧ (o = .nils ∨ o = .emp))
  | .nilmap, o => o = .nilmap
  | .mapr j, o => ∃ i, o = .mapr i ∧ keep[j]? = some i
  | .nilfn, o => o = .nilfn
  | .fn f cap, o => ∃ os, o = .fn f os ∧ Wvs h keep fr cap os
  | .nilif, o => o = .nilif
  | .iface t v, o => ∃ x, o = .iface t x ∧ Wv h keep fr v x
def Wvs (h : Heap) (keep fr : List Nat) : List AV → List AV → Prop
  | [], os => os = []
  | a :: as, os => ∃ o r, os = o :: r ∧ Wv h keep fr a o ∧ Wvs h keep fr as r
/-- Elements out of cells. -/
def Wel (h : Heap) (keep fr : List Nat) (sz : Nat) : List AV → List AV → Prop
  | [], os => os = []
  | e :: es, os => ∃ a b, os = a ++ b ∧ a.length = sz ∧ e.val = true ∧ (Wv h keep fr e (.agg a) ∨ ∃ x, a = [x] ∧ Wv h keep fr e x) ∧ Wel h keep fr sz es b
end

def Wblk (h : Heap) (keep fr : List Nat) : Blk → Blk → Prop
  | .cells cs, .cells os => cs.all AV.one = true ∧ Wvs h keep fr cs os
  | .map es, .map os => Wvs h keep fr (es.map (·.1)) (os.map (·.1)) ∧ Wvs h keep fr (es.map (·.2)) (os.map (·.2))
  | _, _ => False

def Wh (h : Heap) (keep fr : List Nat) : Heap → List Nat → Prop
  | [], ks => ks = []
  | k' :: r, ks => ∃ i is, ks = i :: is ∧ (match k' with | none => True | some k' => (∃ k, h.at i = some k ∧ Wblk h keep fr k' k) ∨ (k' = .cells [] ∧ h.length ≤ i)) ∧ Wh h keep fr r is

def Went (h : Heap) (keep fr : List Nat) (nt : Nat) (te : AEnv) : AEnv → Prop
  | [] => True
  | (d, v) :: r => d < nt ∧ Wv h keep fr v (lookE te d) ∧ Went h keep fr nt te r

section
variable {G G' : Snap} {L : Lk} {I I' : Inj} {h : Heap} {keep fr : List Nat} {w : World}

theorem VRs_cells {b base : Nat} {o : Obj} {ext : Nat} {cs : List AV} (hb : BR G I (.cells cs) o base ext) (off n : Nat) (hle : off + n ≤ cs.length) :
    ∃ vs : List Value, VRs G I ((cs.drop off).take n) vs ∧ holdsAt o (base + off) vs ∧ (∀ v ∈ vs, v.cells = #[v]) := by
  obtain ⟨c, e, rfl, h1, h2, h3⟩ := hb
  have key : ∀ n off, off + n ≤ cs.length → ∃ vs : List Value, VRs G I ((cs.drop off).take n) vs ∧ vs.length = n ∧ (∀ (j : Nat) v, vs[j]? = some v → c[base + off + j]? = some v) ∧ (∀ v ∈ vs, v.cells = #[v]) := by
    intro n
    induction n with
    | zero => intro off _; exact ⟨[], by simp [VRs], rfl, by simp, by simp⟩
    | succ n ih =>
      intro off hle
      obtain ⟨vs, g1, g2, g3, g5⟩ := ih (off + 1) (by omega)
      have hlt : off < cs.length := by omega
      obtain ⟨q1, v, q2, q3⟩ := h3 off cs[off] (List.getElem?_eq_getElem hlt)
      refine ⟨v :: vs, ?_, by simp [g2], ?_, ?_⟩
      · rw [List.drop_eq_getElem_cons hlt, List.take_succ_cons]
        simp only [VRs]
        exact ⟨v, vs, rfl, q3, g1⟩
      · intro j x hj
        cases j with
        | zero => simp at hj; subst hj; simpa using q2
        | succ j => simp at hj; have := g3 j x hj; rw [← this]; congr 1; omega
      · intro x hx
        rcases List.mem_cons.1 hx with rfl | hx
        · exact (VR_one q3 q1).1
        · exact g5 x hx
  obtain ⟨vs, g1, g2, g3, g5⟩ := key n off hle
  refine ⟨vs, g1, ⟨c, e, _, rfl, by omega, fun j v hj => ?_⟩, g5⟩
  rw [← g3 j v hj]

mutual
theorem Wv_sound (hs : St G L I h w) (hG : G.le G') (hI : ∀ j i x, keep[j]? = some i → I i = some x → I' j = some x) (hF : ∀ i ∈ fr, ∀ b x o, I i = some (b, x) → (∃ k, h.at i = some k) → w.heap[b]? = some o → G' b = some o) :
    ∀ (a o : AV) (c : Value), Wv h keep fr a o → VR G I o c → VR G' I' a c
  | .undef, o, c, _, _ => by simp [VR]
  | .bool b, o, c, ha, hv => by simp only [Wv] at ha; subst ha; simpa [VR] using hv
  | .int k n, o, c, ha, hv => by simp only [Wv] at ha; subst ha; simpa [VR] using hv
  | .str s, o, c, ha, hv => by simp only [Wv] at ha; subst ha; simpa [VR] using hv
  | .agg cs, o, c, ha, hv => by
    simp only [Wv] at ha; obtain ⟨os, rfl, h1⟩ := ha
    simp only [VR] at hv ⊢; obtain ⟨vs, rfl, h2⟩ := hv
    exact ⟨vs, rfl, Wvs_sound hs hG hI hF cs os vs h1 h2⟩
  | .tup cs, o, c, ha, hv => by
    simp only [Wv] at ha; obtain ⟨os, rfl, h1⟩ := ha
    simp only [VR] at hv ⊢; obtain ⟨vs, rfl, h2⟩ := hv
    exact ⟨vs, rfl, Wvs_sound hs hG hI hF cs os vs h1 h2⟩
  | .nilp, o, c, ha, hv => by simp only [Wv] at ha; subst ha; simpa [VR] using hv
  | .ptr j off, o, c, ha, hv => by
    simp only [Wv] at ha; obtain ⟨i, rfl, hk⟩ := ha
    simp only [VR] at hv ⊢; obtain ⟨b, base, ext, h1, h2⟩ := hv
    exact ⟨b, base, ext, hI j i _ hk h1, h2⟩
  | .vptr cs off, o, c, ha, hv => by
    simp only [Wv] at ha
    rcases ha with ⟨rfl, hp⟩ | ⟨i, os, rfl, hi, hat, hw⟩
    · simp only [VR] at hv ⊢
      obtain ⟨b, o, obj, vs, h1, h2, h3, h4⟩ := hv
      exact ⟨b, o, obj, vs, h1, hG _ _ h2, VRs_pure _ _ hp (VRs_mono hG (Inj.le_refl I) _ _ h3), h4⟩
    · simp only [VR] at hv ⊢
      obtain ⟨b, base, ext, h1, h2⟩ := hv
      obtain ⟨obj, g1, g2, g3, g4⟩ := hs.ownOf h1 hat
      obtain ⟨vs, k1, k2, _⟩ := VRs_cells (b := b) g4 0 os.length (by omega)
      refine ⟨b, base, obj, vs, h2, hF i hi b _ _ h1 ⟨_, hat⟩ g3, Wvs_sound hs hG hI hF cs os vs hw (by simpa using k1), by simpa using k2⟩
  | .nils, o, c, ha, hv => by simp only [Wv] at ha; subst ha; simpa [VR] using hv
  | .emp, o, c, ha, hv => by simp only [Wv] at ha; subst ha; simpa [VR] using hv
  | .lit sz es, o, c, ha, hv => by
    simp only [Wv] at ha
    rcases ha with ⟨rfl, hp⟩ | ⟨rfl, rfl⟩ | ⟨rfl, rfl⟩ | ⟨i, off, ln, os, rfl, hln, hi, hat, hle, hw⟩
    · simp only [VR] at hv ⊢
      rcases hv with hv | ⟨b, o, obj, cap, vs, h1, h2, h3, h4, h5⟩
      · exact .inl hv
      · exact .inr ⟨b, o, obj, cap, vs, h1, h2, hG _ _ h3, VRs_pure _ _ hp (VRs_mono hG (Inj.le_refl I) _ _ h4), h5⟩
    · simp only [VR] at hv ⊢; exact .inl ⟨trivial, none, 0, hv⟩
    · simp only [VR] at hv ⊢; obtain ⟨q, hv⟩ := hv; exact .inl ⟨trivial, q, 0, hv⟩
    · simp only [VR] at hv ⊢
      rcases hv with ⟨h0, q, rfl⟩ | ⟨b, base, ext, cap, h1, h2, h3, h4⟩
      · exact .inl ⟨List.eq_nil_of_length_eq_zero (by omega), q, 0, rfl⟩
      · right
        obtain ⟨obj, g1, g2, g3, g4⟩ := hs.ownOf h1 hat
        obtain ⟨cv, k1, k2, k3⟩ := VRs_cells (b := b) g4 off (ln * sz) hle
        obtain ⟨vs, m1, m2, m3, m4⟩ := Wel_sound hs hG hI hF sz es _ cv hw k1 k3
        exact ⟨b, base + off, obj, cap, vs, by rw [h2, hln], by omega, hF i hi b _ _ h1 ⟨_, hat⟩ g3, m1, by rw [m2]; exact k2, m3, m4⟩
  | .slice j off ln sz, o, c, ha, hv => by
    simp only [Wv] at ha
    rcases ha with ⟨i, rfl, hk⟩ | ⟨h0, rfl | rfl⟩
    · simp only [VR] at hv ⊢
      rcases hv with hv | ⟨b, base, ext, cap, h1, h2⟩
      · exact .inl hv
      · exact .inr ⟨b, base, ext, cap, hI j i _ hk h1, h2⟩
    · simp only [VR] at hv ⊢
      exact .inl ⟨h0, none, hv⟩
    · simp only [VR] at hv ⊢
      exact .inl ⟨h0, hv⟩
  | .nilmap, o, c, ha, hv => by simp only [Wv] at ha; subst ha; simpa [VR] using hv
  | .mapr j, o, c, ha, hv => by
    simp only [Wv] at ha; obtain ⟨i, rfl, hk⟩ := ha
    simp only [VR] at hv ⊢; obtain ⟨b, base, ext, h1, h2⟩ := hv
    exact ⟨b, base, ext, hI j i _ hk h1, h2⟩
  | .nilfn, o, c, ha, hv => by simp only [Wv] at ha; subst ha; simpa [VR] using hv
  | .fn f cap, o, c, ha, hv => by
    simp only [Wv] at ha; obtain ⟨os, rfl, h1⟩ := ha
    simp only [VR] at hv ⊢; obtain ⟨vs, rfl, h2⟩ := hv
    exact ⟨vs, rfl, Wvs_sound hs hG hI hF cap os vs h1 h2⟩
  | .nilif, o, c, ha, hv => by simp only [Wv] at ha; subst ha; simpa [VR] using hv
  | .iface t v, o, c, ha, hv => by
    simp only [Wv] at ha; obtain ⟨x, rfl, h1⟩ := ha
    simp only [VR] at hv ⊢; obtain ⟨v', rfl, h2⟩ := hv
    exact ⟨v', rfl, Wv_sound hs hG hI hF v x v' h1 h2⟩
theorem Wvs_sound (hs : St G L I h w) (hG : G.le G') (hI : ∀ j i x, keep[j]? = some i → I i = some x → I' j = some x) (hF : ∀ i ∈ fr, ∀ b x o, I i = some (b, x) → (∃ k, h.at i = some k) → w.heap[b]? = some o → G' b = some o) :
    ∀ (as os : List AV) (cs : List Value), Wvs h keep fr as os → VRs G I os cs → VRs G' I' as cs
  | [], os, cs, ha, hv => by simp only [Wvs] at ha; subst ha; simpa [VRs] using hv
  | a :: as, os, cs, ha, hv => by
    simp only [Wvs] at ha; obtain ⟨o, r, rfl, h1, h2⟩ := ha
    simp only [VRs] at hv ⊢; obtain ⟨v, r', rfl, h3, h4⟩ := hv
    exact ⟨v, r', rfl, Wv_sound hs hG hI hF a o v h1 h3, Wvs_sound hs hG hI hF as r r' h2 h4⟩
theorem Wel_sound (hs : St G L I h w) (hG : G.le G') (hI : ∀ j i x, keep[j]? = some i → I i = some x → I' j = some x) (hF : ∀ i ∈ fr, ∀ b x o, I i = some (b, x) → (∃ k, h.at i = some k) → w.heap[b]? = some o → G' b = some o) :
    ∀ (sz : Nat) (es os : List AV) (cv : List Value), Wel h keep fr sz es os → VRs G I os cv → (∀ v ∈ cv, v.cells = #[v]) →
      ∃ vs : List Value, VRs G' I' es vs ∧ flatV vs = cv ∧ (∀ v ∈ vs, v.cells.size = sz) ∧ es.all AV.val = true
  | sz, [], os, cv, ha, hv, _ => by
    simp only [Wel] at ha; subst ha
    simp only [VRs] at hv; subst hv
    exact ⟨[], by simp [VRs], rfl, by simp, rfl⟩
  | sz, e :: es, os, cv, ha, hv, h1 => by
    simp only [Wel] at ha
    obtain ⟨a, b, rfl, hsz, hval, hab, hrest⟩ := ha
    have hsplit : ∃ va vb, cv = va ++ vb ∧ VRs G I a va ∧ VRs G I b vb := by
      refine ⟨cv.take a.length, cv.drop a.length, (List.take_append_drop _ _).symm, ?_, ?_⟩
      · have := VRs_take hv a.length; simpa using this
      · have := VRs_drop hv a.length; simpa using this
    obtain ⟨va, vb, rfl, hva, hvb⟩ := hsplit
    obtain ⟨vs, m1, m2, m3, m4⟩ := Wel_sound hs hG hI hF sz es b vb hrest hvb (fun v hv => h1 v (by simp [hv]))
    have hlen := VRs_length hva
    rcases hab with hab | ⟨x, rfl, hab⟩
    · refine ⟨.agg va.toArray :: vs, ?_, ?_, ?_, by simp [hval, m4]⟩
      · simp only [VRs]
        exact ⟨_, _, rfl, Wv_sound hs hG hI hF e (.agg a) _ hab (by simp only [VR]; exact ⟨va, rfl, hva⟩), m1⟩
      · unfold flatV at m2 ⊢
        rw [List.flatMap_cons, m2]
        simp [Value.cells]
      · intro v hv
        rcases List.mem_cons.1 hv with rfl | hv
        · simp [Value.cells]; omega
        · exact m3 v hv
    · simp only [VRs] at hva
      obtain ⟨v, r, rfl, hvx, rfl⟩ := hva
      have hc1 := h1 v (by simp)
      refine ⟨v :: vs, ?_, ?_, ?_, by simp [hval, m4]⟩
      · simp only [VRs]
        exact ⟨_, _, rfl, Wv_sound hs hG hI hF e x v hab hvx, m1⟩
      · unfold flatV at m2 ⊢
        rw [List.flatMap_cons, m2, hc1]
      · intro y hy
        rcases List.mem_cons.1 hy with rfl | hy
        · rw [hc1]; simpa using hsz
        · exact m3 y hy
end


theorem Wh_spec : ∀ {h' : Heap} {ks : List Nat}, Wh h keep fr h' ks → h'.length = ks.length ∧ ∀ j k', h'.at j = some k' → ∃ i, ks[j]? = some i ∧ ((∃ k, h.at i = some k ∧ Wblk h keep fr k' k) ∨ (k' = .cells [] ∧ h.length ≤ i))
  | [], ks, hw => by
    simp only [Wh] at hw; subst hw
    exact ⟨rfl, fun j k' hj => by simp [Heap.at] at hj⟩
  | k :: r, ks, hw => by
    simp only [Wh] at hw
    obtain ⟨i, is, rfl, h1, h2⟩ := hw
    obtain ⟨g1, g2⟩ := Wh_spec h2
    refine ⟨by simp [g1], fun j k' hj => ?_⟩
    cases j with
    | zero =>
      cases k with
      | none => simp [Heap.at] at hj
      | some kk =>
        simp [Heap.at] at hj; subst hj
        exact ⟨i, by simp, h1⟩
    | succ j =>
      have : Heap.at r j = some k' := by simpa [Heap.at] using hj
      obtain ⟨i', m1, m2⟩ := g2 j k' this
      exact ⟨i', by simpa using m1, m2⟩

theorem Went_spec {nt : Nat} {te : AEnv} : ∀ {te' : AEnv}, Went h keep fr nt te te' → ∀ t, lookE te' t = .undef ∨ (t < nt ∧ Wv h keep fr (lookE te' t) (lookE te t))
  | [], _, t => .inl rfl
  | (d, v) :: r, hw, t => by
    simp only [Went] at hw
    obtain ⟨h1, h2, h3⟩ := hw
    simp only [lookE]
    cases hb : Nat.beq d t with
    | true =>
      have e : d = t := Nat.eq_of_beq_eq_true hb
      subst e
      right
      exact ⟨h1, by simpa using h2⟩
    | false => simpa using Went_spec h3 t

open Classical in
/-- **Ghost steps.** -/
theorem WkE.of (keep fr : List Nat) {n0 nt : Nat} {te : AEnv} {h : Heap} {te' : AEnv} {h' : Heap} (hnd : keep.Nodup) (hdis : ∀ i ∈ fr, i ∉ keep) (hn0 : ∀ i, i < n0 → keep[i]? = some i)
    (hh : Wh h keep fr h' keep) (he : Went h keep fr nt te te') : WkE n0 nt te h te' h' := by
  intro env r
  obtain ⟨hlen, hblk⟩ := Wh_spec hh
  refine ⟨(List.range nt).map (lookE te'), ⟨by simp, fun t => ?_⟩, ?_⟩
  · simp only [List.getD, List.getElem?_map]
    rcases Went_spec he t with h0 | ⟨h1, h2⟩
    · rw [h0]
      rcases Nat.lt_or_ge t nt with hlt | hge
      · rw [List.getElem?_range hlt]; simp [h0]
      · rw [List.getElem?_eq_none (by simpa using hge)]; rfl
    · rw [List.getElem?_range h1]; rfl
  · intro G L I w tmps hs hf hl hev
    let froz : Nat → Prop := fun b => ∃ i, i ∈ fr ∧ (∃ k, h.at i = some k) ∧ ∃ x, I i = some (b, x)
    let G' : Snap := fun b => match G b with
      | some o => some o
      | none => if froz b then w.heap[b]? else none
    let I' : Inj := fun j => match keep[j]? with
      | some i => I i
      | none => none
    have hGG : G.le G' := by
      intro b o hb
      simp only [G', hb]
    have hI : ∀ j i x, keep[j]? = some i → I i = some x → I' j = some x := by
      intro j i x hj hx
      simp only [I', hj]; exact hx
    have hF : ∀ i ∈ fr, ∀ b x o, I i = some (b, x) → (∃ k, h.at i = some k) → w.heap[b]? = some o → G' b = some o := by
      intro i hi b x o hx hk ho
      obtain ⟨k, hk⟩ := hk
      obtain ⟨base, ext⟩ := x
      obtain ⟨o', g1, g2, g3, g4⟩ := hs.ownOf hx hk
      simp only [G', g1]
      rw [if_pos ⟨i, hi, ⟨k, hk⟩, _, hx⟩]
      exact ho
    have hG' : ∀ b, G' b ≠ none → G b = none → froz b := by
      intro b hb hg
      simp only [G', hg] at hb
      by_cases hfz : froz b
      · exact hfz
      · rw [if_neg hfz] at hb; exact absurd rfl hb
    refine ⟨G', I', hGG, ?_, ?_, ?_, ?_, ?_⟩
    · intro i hi
      simp only [I', hn0 i hi]
    · rw [hlen]
      rcases Nat.eq_zero_or_pos n0 with hz | hz
      · omega
      · have := (List.getElem?_eq_some_iff.1 (hn0 (n0 - 1) (by omega))).1; omega
    · intro j hj
      simp only [I']
      rw [List.getElem?_eq_none (by omega)]
    · have back : ∀ j k', h'.at j = some k' → (∃ i k, keep[j]? = some i ∧ h.at i = some k ∧ Wblk h keep fr k' k ∧ I' j = I i) ∨ (k' = .cells [] ∧ I' j = none) := by
        intro j k' hj
        obtain ⟨i, h1, ⟨k, h2, h3⟩ | ⟨h2, h3⟩⟩ := hblk j k' hj
        · exact .inl ⟨i, k, h1, h2, h3, by simp only [I', h1]⟩
        · exact .inr ⟨h2, by simp only [I', h1]; exact hf i h3⟩
      constructor
      · intro b o hb
        simp only [G'] at hb
        cases hg : G b with
        | some o' => rw [hg] at hb; injection hb with hb; subst hb; exact hs.g b _ hg
        | none =>
          rw [hg] at hb
          simp only at hb
          split at hb
          · exact hb
          · cases hb
      · exact hs.l
      · intro b
        cases hg : G b with
        | some o => right; exact (hs.dis b).resolve_left (by rw [hg]; simp)
        | none =>
          by_cases hfz : froz b
          · obtain ⟨i, hi, ⟨k, hk⟩, x, hx⟩ := hfz
            obtain ⟨base, ext⟩ := x
            obtain ⟨o', g1, g2, g3, g4⟩ := hs.ownOf hx hk
            exact .inr g2
          · left; simp only [G', hg]; rw [if_neg hfz]
      · intro j k' hj
        rcases back j k' hj with ⟨i, k, h1, h2, h3, h4⟩ | hnew
        case inr => exact .inl hnew
        rcases hs.own i k h2 with ⟨e1, e2⟩ | ⟨b, base, ext, o, g1, g2, g3, g4, g5⟩
        · subst e1
          left
          cases k' with
          | map es => simp only [Wblk] at h3
          | cells cs =>
            simp only [Wblk] at h3
            have : cs = [] := by
              cases cs with
              | nil => rfl
              | cons a as => have := h3.2; simp only [Wvs] at this; obtain ⟨_, _, e, _⟩ := this; cases e
            exact ⟨by rw [this], by rw [h4]; exact e2⟩
        · right
          refine ⟨b, base, ext, o, by rw [h4]; exact g1, ?_, g3, g4, ?_⟩
          · have hn : ¬ froz b := by
              rintro ⟨i', hi', ⟨k2, hk2⟩, x, hx⟩
              have := hs.inj i i' k k2 b _ x h2 hk2 g1 hx
              subst this
              exact hdis i hi' (List.mem_of_getElem? h1)
            simp only [G', g2]; rw [if_neg hn]
          · cases k' with
            | cells cs =>
              cases k with
              | map es => simp only [Wblk] at h3
              | cells os =>
                simp only [Wblk] at h3
                obtain ⟨c, e, rfl, q1, q2, q3⟩ := g5
                have hpt : ∀ (cs os : List AV), Wvs h keep fr cs os → cs.length = os.length ∧ ∀ (j : Nat) (a : AV), cs[j]? = some a → ∃ o : AV, os[j]? = some o ∧ Wv h keep fr a o := by
                  intro cs
                  induction cs with
                  | nil => intro os hw; simp only [Wvs] at hw; subst hw; simp
                  | cons a as ih =>
                    intro os hw
                    simp only [Wvs] at hw
                    obtain ⟨o, r, rfl, m1, m2⟩ := hw
                    obtain ⟨n1, n2⟩ := ih r m2
                    refine ⟨by simp [n1], fun j a' hj => ?_⟩
                    cases j with
                    | zero => simp at hj; subst hj; exact ⟨o, by simp, m1⟩
                    | succ j => simp at hj; simpa using n2 j a' hj
                obtain ⟨n1, n2⟩ := hpt cs os h3.2
                refine ⟨c, e, rfl, by omega, q2, fun j a hj => ?_⟩
                refine ⟨(List.all_eq_true.1 h3.1) a (List.mem_of_getElem? hj), ?_⟩
                obtain ⟨o, m1, m2⟩ := n2 j a hj
                obtain ⟨_, v, m4, m5⟩ := q3 j o m1
                exact ⟨v, m4, Wv_sound hs hGG hI hF a o v m2 m5⟩
            | map es =>
              cases k with
              | cells os => simp only [Wblk] at h3
              | map os =>
                simp only [Wblk] at h3
                obtain ⟨mes, clock, rfl, q1, q2⟩ := g5
                exact ⟨mes, clock, rfl, Wvs_sound hs hGG hI hF _ _ _ h3.1 q1, Wvs_sound hs hGG hI hF _ _ _ h3.2 q2⟩
      · intro i j ki kj b x x' hi hj hxi hxj
        rcases back i ki hi with ⟨i1, k1, a1, a2, a3, a4⟩ | ⟨_, hn⟩
        case inr => rw [hn] at hxi; cases hxi
        rcases back j kj hj with ⟨j1, k2, b1, b2, b3, b4⟩ | ⟨_, hn⟩
        case inr => rw [hn] at hxj; cases hxj
        rw [a4] at hxi; rw [b4] at hxj
        have e := hs.inj i1 j1 k1 k2 b x x' a2 b2 hxi hxj
        subst e
        have hi' := List.getElem?_eq_some_iff.1 a1
        have hj' := List.getElem?_eq_some_iff.1 b1
        exact (List.getElem_inj hnd).1 (hi'.2.trans hj'.2.symm)
      · exact hs.out
    · unfold EnvR at hev ⊢
      have hl := VRs_length hev
      refine VRs_of_get (by rw [hl, r.len]; simp) fun t a ht => ?_
      rw [List.getElem?_map] at ht
      obtain ⟨htn, hte⟩ : t < nt ∧ a = lookE te' t := by
        rcases Nat.lt_or_ge t nt with hlt | hge
        · rw [List.getElem?_range hlt] at ht; simp at ht; exact ⟨hlt, ht.symm⟩
        · rw [List.getElem?_eq_none (by simpa using hge)] at ht; cases ht
      have hlt : t < env.length := by rw [r.len]; exact htn
      obtain ⟨c, c1, c2⟩ := VRs_get hev (List.getElem?_eq_getElem hlt)
      refine ⟨c, c1, ?_⟩
      rw [hte]
      rcases Went_spec he t with h0 | ⟨_, h2⟩
      · rw [h0]; simp [VR]
      · have e : lookE te t = env[t] := by rw [r.get t]; simp [List.getD, List.getElem?_eq_getElem hlt]
        rw [e] at h2
        exact Wv_sound hs hGG hI hF _ _ c h2 c2
end

section
variable {h : Heap} {keep fr : List Nat}
mutual
theorem Wv_self : ∀ a : AV, a.pure = true → Wv h keep fr a a
  | .agg cs, hp => by simp only [AV.pure] at hp; simp only [Wv]; exact ⟨cs, rfl, Wvs_self cs hp⟩
  | .tup cs, hp => by simp only [AV.pure] at hp; simp only [Wv]; exact ⟨cs, rfl, Wvs_self cs hp⟩
  | .ptr _ _, hp => by simp [AV.pure] at hp
  | .vptr cs off, hp => by simp only [AV.pure] at hp; unfold Wv; exact .inl ⟨rfl, hp⟩
  | .lit sz es, hp => by simp only [AV.pure] at hp; unfold Wv; exact .inl ⟨rfl, hp⟩
  | .slice _ _ _ _, hp => by simp [AV.pure] at hp
  | .mapr _, hp => by simp [AV.pure] at hp
  | .fn f cap, hp => by simp only [AV.pure] at hp; simp only [Wv]; exact ⟨cap, rfl, Wvs_self cap hp⟩
  | .iface t v, hp => by simp only [AV.pure] at hp; simp only [Wv]; exact ⟨v, rfl, Wv_self v hp⟩
  | .undef, _ => by simp [Wv]
  | .bool _, _ => by simp only [Wv]
  | .int _ _, _ => by simp only [Wv]
  | .str _, _ => by simp only [Wv]
  | .nilp, _ => by simp only [Wv]
  | .nils, _ => by simp only [Wv]
  | .emp, _ => by simp only [Wv]
  | .nilmap, _ => by simp only [Wv]
  | .nilfn, _ => by simp only [Wv]
  | .nilif, _ => by simp only [Wv]
theorem Wvs_self : ∀ l : List AV, pureL l = true → Wvs h keep fr l l
  | [], _ => by simp only [Wvs]
  | a :: l, hp => by
    simp only [pureL, Bool.and_eq_true] at hp
    simp only [Wvs]
    exact ⟨a, l, rfl, Wv_self a hp.1, Wvs_self l hp.2⟩
end
theorem wv_self {a : AV} (hp : a.pure = true) : Wv h keep fr a a = True := eq_true (Wv_self a hp)
theorem wvs_self {l : List AV} (hp : pureL l = true) : Wvs h keep fr l l = True := eq_true (Wvs_self l hp)
theorem wv_undef {o : AV} : Wv h keep fr .undef o = True := by simp [Wv]
theorem wv_ptr {i j a b : Nat} : Wv h keep fr (.ptr j a) (.ptr i b) = (a = b ∧ keep[j]? = some i) := by
  simp only [Wv]; refine propext ⟨?_, ?_⟩
  · rintro ⟨i', e, hk⟩; injection e with e1 e2; subst e1; exact ⟨e2.symm, hk⟩
  · rintro ⟨rfl, hk⟩; exact ⟨i, rfl, hk⟩
theorem wv_slice {i j a b l l' s s' : Nat} : Wv h keep fr (.slice j a l s) (.slice i b l' s') = (a = b ∧ l = l' ∧ s = s' ∧ keep[j]? = some i) := by
  simp only [Wv]; refine propext ⟨?_, ?_⟩
  · rintro (⟨i', e, hk⟩ | ⟨_, e | e⟩)
    · injection e with e1 e2 e3 e4; subst e1; exact ⟨e2.symm, e3.symm, e4.symm, hk⟩
    · cases e
    · cases e
  · rintro ⟨rfl, rfl, rfl, hk⟩; exact .inl ⟨i, rfl, hk⟩
theorem wv_slice_nils {j a s : Nat} : Wv h keep fr (.slice j a 0 s) .nils = True := by simp [Wv]
theorem wv_slice_emp {j a s : Nat} : Wv h keep fr (.slice j a 0 s) .emp = True := by simp [Wv]
theorem wv_mapr {i j : Nat} : Wv h keep fr (.mapr j) (.mapr i) = (keep[j]? = some i) := by
  simp only [Wv]; refine propext ⟨?_, ?_⟩
  · rintro ⟨i', e, hk⟩; injection e with e1; subst e1; exact hk
  · intro hk; exact ⟨i, rfl, hk⟩
theorem wv_agg {a b : List AV} : Wv h keep fr (.agg a) (.agg b) = Wvs h keep fr a b := by
  simp only [Wv]; refine propext ⟨?_, ?_⟩
  · rintro ⟨os, e, hk⟩; injection e with e1; subst e1; exact hk
  · intro hk; exact ⟨b, rfl, hk⟩
theorem wv_tup {a b : List AV} : Wv h keep fr (.tup a) (.tup b) = Wvs h keep fr a b := by
  simp only [Wv]; refine propext ⟨?_, ?_⟩
  · rintro ⟨os, e, hk⟩; injection e with e1; subst e1; exact hk
  · intro hk; exact ⟨b, rfl, hk⟩
theorem wv_lit_nils {sz : Nat} : Wv h keep fr (.lit sz []) .nils = True := by simp [Wv]
theorem wv_lit_emp {sz : Nat} : Wv h keep fr (.lit sz []) .emp = True := by simp [Wv]
def frzB (h : Heap) (keep fr : List Nat) (sz off ln : Nat) (es : List AV) : Option Blk → Prop
  | some (.cells os) => off + ln * sz ≤ os.length ∧ Wel h keep fr sz es ((os.drop off).take (ln * sz))
  | _ => False
theorem frzB_some {sz off ln : Nat} {es os : List AV} : frzB h keep fr sz off ln es (some (.cells os)) = (off + ln * sz ≤ os.length ∧ Wel h keep fr sz es ((os.drop off).take (ln * sz))) := rfl
theorem wv_frz {sz i off ln : Nat} {es : List AV} : Wv h keep fr (.lit sz es) (.slice i off ln sz) = (ln = es.length ∧ i ∈ fr ∧ frzB h keep fr sz off ln es (h.at i)) := by
  simp only [Wv]; refine propext ⟨?_, ?_⟩
  · rintro (⟨e, _⟩ | ⟨e, _⟩ | ⟨e, _⟩ | ⟨i', o', l', os', e, h1, h2, h3, h4, h5⟩)
    · cases e
    · cases e
    · cases e
    · injection e with e1 e2 e3 e4
      subst e1; subst e2; subst e3
      rw [h3]
      exact ⟨h1, h2, h4, h5⟩
  · rintro ⟨h1, h2, h4⟩
    cases hat : h.at i with
    | none => rw [hat] at h4; exact h4.elim
    | some b =>
      cases b with
      | map es => rw [hat] at h4; exact h4.elim
      | cells os =>
        rw [hat] at h4
        exact .inr (.inr (.inr ⟨i, off, ln, os, rfl, h1, h2, hat, h4.1, h4.2⟩))
theorem wvs_nil : Wvs h keep fr [] [] = True := by simp [Wvs]
theorem wvs_cons {a o : AV} {as os : List AV} : Wvs h keep fr (a :: as) (o :: os) = (Wv h keep fr a o ∧ Wvs h keep fr as os) := by
  simp only [Wvs]; refine propext ⟨?_, ?_⟩
  · rintro ⟨o', r', e, hk⟩; injection e with e1 e2; subst e1; subst e2; exact hk
  · intro hk; exact ⟨o, os, rfl, hk⟩
theorem wblk_cells {a b : List AV} : Wblk h keep fr (.cells a) (.cells b) = (a.all AV.one = true ∧ Wvs h keep fr a b) := rfl
theorem wblk_map {a b : List (AV × AV)} : Wblk h keep fr (.map a) (.map b) = (Wvs h keep fr (a.map (·.1)) (b.map (·.1)) ∧ Wvs h keep fr (a.map (·.2)) (b.map (·.2))) := rfl
theorem wh_nil : Wh h keep fr [] [] = True := by simp [Wh]
def whB (h : Heap) (keep fr : List Nat) (k' : Blk) (i : Nat) : Option Blk → Prop
  | some k => Wblk h keep fr k' k
  | none => k' = .cells [] ∧ h.length ≤ i
theorem whB_some {k k' : Blk} {i : Nat} : whB h keep fr k' i (some k) = Wblk h keep fr k' k := rfl
theorem whB_none {k' : Blk} {i : Nat} : whB h keep fr k' i none = (k' = .cells [] ∧ h.length ≤ i) := rfl
theorem at_ge {h : Heap} {i : Nat} (hi : h.length ≤ i) : h.at i = none := by unfold Heap.at; rw [List.getElem?_eq_none hi]; rfl
theorem wh_none {r : Heap} {i : Nat} {is : List Nat} : Wh h keep fr (none :: r) (i :: is) = Wh h keep fr r is := by
  simp only [Wh]; refine propext ⟨?_, ?_⟩
  · rintro ⟨i', is', e, _, hk⟩; injection e with e1 e2; subst e2; exact hk
  · intro hk; exact ⟨i, is, rfl, trivial, hk⟩
theorem wh_some {k : Blk} {r : Heap} {i : Nat} {is : List Nat} : Wh h keep fr (some k :: r) (i :: is) = (whB h keep fr k i (h.at i) ∧ Wh h keep fr r is) := by
  simp only [Wh]; refine propext ⟨?_, ?_⟩
  · rintro ⟨i', is', e, ⟨k0, h1, h2⟩ | ⟨h1, h2⟩, hk⟩
    · injection e with e1 e2; subst e1; subst e2
      exact ⟨by rw [h1]; exact h2, hk⟩
    · injection e with e1 e2; subst e1; subst e2
      exact ⟨by rw [at_ge h2]; exact ⟨h1, h2⟩, hk⟩
  · rintro ⟨h1, hk⟩
    refine ⟨i, is, rfl, ?_, hk⟩
    cases hat : h.at i with
    | none => rw [hat] at h1; exact .inr h1
    | some k0 => rw [hat] at h1; exact .inl ⟨k0, rfl, h1⟩
theorem went_nil {nt : Nat} {te : AEnv} : Went h keep fr nt te [] = True := rfl
theorem went_cons {nt : Nat} {te r : AEnv} {d : Nat} {v : AV} : Went h keep fr nt te ((d, v) :: r) = (d < nt ∧ Wv h keep fr v (lookE te d) ∧ Went h keep fr nt te r) := rfl
end
attribute [go_sem] frzB_some wv_frz wv_self wvs_self wv_undef wv_ptr wv_slice wv_slice_nils wv_slice_emp wv_mapr wv_agg wv_tup wv_lit_nils wv_lit_emp wvs_nil wvs_cons wblk_cells wblk_map wh_nil whB_some whB_none wh_none wh_some went_nil went_cons
end Go.AM
