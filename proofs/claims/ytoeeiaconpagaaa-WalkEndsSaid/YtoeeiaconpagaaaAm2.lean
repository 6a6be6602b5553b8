/- Soundness of the remaining operations of the abstract machine. No condition. -/
import Derived.Test.YtoeeiaconpagaaaAm1
set_option linter.unusedVariables false
set_option linter.unusedSimpArgs false
set_option linter.unnecessarySimpa false
namespace Go.AM
section
variable {P : Program} {w : World} {G : Snap} {L : Lk} {I : Inj} {h : Heap} {n : Nat}

/-- The world behind an append that grew. -/
theorem run_append_grow' (t tx ty e : TypeId) (i : TypeInfo) (z : Value) (e2 : TypeId) (ht : P.underlying t = some (.slice e)) (htx : P.underlying tx = some (.slice e2))
    (hi : P.info? e = some i) (hz : i.zero = some z) (base : Option Addr) (sLen sCap : Nat) (olds : List Value) (x : Value) (m : Nat) (news : List Value)
    (hold : (Builtin.firstCells i.size sLen (.slice base sLen sCap)).run P w.drew = .ok olds.toArray w.drew)
    (hlen : Builtin.lenOf x = Sem.pure m) (hnew : (Builtin.firstCells i.size m x).run P w.drew = .ok news.toArray w.drew)
    (hg : sCap < sLen + m) (h63 : ((sLen + m : Nat) : Int) ≤ 9223372036854775807) (hfit : Builtin.nextslicecap (sLen + m) sCap * i.bytes ≤ 281474976710656) :
    (Builtin.append_ #[t, tx] ty #[.slice base sLen sCap, x]).run P w =
      .ok (.slice (some ⟨w.heap.size, 0, none⟩) (sLen + m) (grownCap w (sLen + m) sCap e))
        (w.drew.alloc (.cells (olds.toArray ++ news.toArray ++ Builtin.zeroCells z.cells (grownCap w (sLen + m) sCap e - (sLen + m))) e)) := by
  have hn : ¬ (sLen + m ≤ sCap) := by omega
  have h63' : ¬ (9223372036854775807 < ((sLen : Int) + (m : Int))) := by omega
  have h48' : ¬ (281474976710656 < Builtin.nextslicecap (sLen + m) sCap * i.bytes) := by omega
  simp [Builtin.append_, run_underlying ht, run_underlying htx, sizeOf, typeInfo, zeroValue, hi, hz, hlen, hn, h63', h48', Question.forced, hold, hnew, newRow, grownCap]
  congr 2
  apply Array.ext'
  simp [List.append_assoc]

theorem run_append_room' (t tx ty e : TypeId) (i : TypeInfo) (e2 : TypeId) (ht : P.underlying t = some (.slice e)) (htx : P.underlying tx = some (.slice e2))
    (hi : P.info? e = some i) (base : Option Addr) (sLen sCap : Nat) (x : Value) (m : Nat) (news : List Value)
    (hlen : Builtin.lenOf x = Sem.pure m) (hnew : (Builtin.firstCells i.size m x).run P w = .ok news.toArray w)
    (hg : sLen + m ≤ sCap) :
    (Builtin.append_ #[t, tx] ty #[.slice base sLen sCap, x]).run P w =
      match base with
      | none => .ok (.slice none (sLen + m) sCap) w
      | some a => ((storeCells (a.add (sLen * i.size)) news).run P w).andThen fun _ w' => .ok (.slice (some a) (sLen + m) sCap) w' := by
  cases base <;> simp [Builtin.append_, run_underlying ht, run_underlying htx, sizeOf, typeInfo, hi, hlen, hg, hnew]

theorem size_zeroCells' (z : Array Value) (k : Nat) : (Builtin.zeroCells z k).size = k * z.size := by simp [Builtin.zeroCells]

theorem app_sound (hs : St G L I h w) {t tx e e2 : TypeId} {sz by_ : Nat} {z : List AV} (ht : P.underlying t = some (.slice e)) (htx : P.underlying tx = some (.slice e2))
    (hsz : szP P e = some sz) (hby : bytesP P e = some by_) (hz : zeroP P e = some z) (hzl : z.length = sz) (hs0 : 0 < sz) (hb0 : 0 < by_)
    {a x : AV} {ca cx : Value} (ha : VR G I a ca) (hx : VR G I x cx) (ty : TypeId) {v : AV} {u : Upd} (hnf : n ∈ u.map (·.1) → I n = none ∧ h.at n = none)
    (hrun : (match (generalizing := false) sliceCells h sz x with
      | none => none
      | some (m, news) =>
        match (generalizing := false) a with
        | .nils => if m = 0 then okv .nils else some (decide (m * by_ ≤ 140737488355328), .slice n 0 m sz, [(n, some (.cells news))])
        | .emp => if m = 0 then okv .emp else some (decide (m * by_ ≤ 140737488355328), .slice n 0 m sz, [(n, some (.cells news))])
        | .slice id off ln sz' =>
          if sz' = sz then
            match h.at id with
            | some (.cells cs) =>
              if off + ln * sz ≤ cs.length then
                some (decide ((ln + m) * by_ ≤ 140737488355328), .slice n 0 (ln + m) sz, [(id, none), (n, some (.cells ((cs.drop off).take (ln * sz) ++ news)))])
              else none
            | _ => none
          else none
        | _ => (none : Res)) = some (true, v, u)) :
    Done P G L I h n (do let v ← Builtin.append_ #[t, tx] ty #[ca, cx]; Pure.pure (Next.value v)) w v u := by
  obtain ⟨i, zv, hi, hz0, hzv, hz1⟩ := zeroP_sound (G := G) (I := I) hz
  have hisz : i.size = sz := by simp [szP, hi] at hsz; exact hsz
  have hiby : i.bytes = by_ := by simp [bytesP, hi] at hby; exact hby
  have hzs : zv.cells.size = sz := by have := VRs_length hzv; simp at this; omega
  cases hsc : sliceCells h sz x with
  | none => simp [hsc] at hrun
  | some mn =>
    obtain ⟨m, news⟩ := mn
    simp only [hsc] at hrun
    obtain ⟨q, xcap, vs, rfl, hvs, hone, hvl, hfc⟩ := sliceCells_sound (P := P) hs hx hsc
    have hlenOf : Builtin.lenOf (.slice q m xcap) = Sem.pure m := rfl
    have hvl' : vs.length = m * sz := by
      rcases hvl with h1 | ⟨h1, h2⟩
      · exact h1
      · subst h1; subst h2; simp
    have hnl := VRs_length hvs
    have hle : ∀ k, k * by_ ≤ 140737488355328 → k ≤ 140737488355328 := fun k hk => Nat.le_trans (Nat.le_mul_of_pos_right k hb0) hk
    -- a slice of no capacity
    have room0 : ∀ (q0 : Option Addr), m = 0 → ca = .slice q0 0 0 → (do let v ← Builtin.append_ #[t, tx] ty #[ca, .slice q m xcap]; Pure.pure (Next.value v)).run P w = .ok (.value (.slice q0 0 0)) w := by
      intro q0 hm hca
      subst hca; subst hm
      have hvs0 : vs = [] := List.eq_nil_of_length_eq_zero (by omega)
      subst hvs0
      have hr := run_append_room' (w := w) t tx ty e i e2 ht htx hi q0 0 0 (.slice q 0 xcap) 0 [] rfl (by rw [hisz]; exact hfc w rfl) (by omega)
      cases q0 <;> simp at hr <;> simp [hr, storeCells]
    have fresh0 : ∀ (q0 : Option Addr) (h' : Heap) (u' : Upd), I n = none → ca = .slice q0 0 0 → m * by_ ≤ 140737488355328 → St G L I h' w → h'.at n = none → 
        (∀ k, h.upd (u' ++ [(n, some k)]) = h'.set n (some k)) →
        Done P G L I h n (do let v ← Builtin.append_ #[t, tx] ty #[ca, .slice q m xcap]; Pure.pure (Next.value v)) w (.slice n 0 m sz) (u' ++ [(n, some (.cells news))]) := by
      intro q0 h' u' hn hca hb hs' hf' hu'
      subst hca
      by_cases hm : m = 0
      · subst hm
        have hvs0 : vs = [] := List.eq_nil_of_length_eq_zero (by omega)
        have hnews0 : news = [] := List.eq_nil_of_length_eq_zero (by rw [← hnl, hvs0]; rfl)
        subst hvs0; subst hnews0
        have hr := run_append_room' (w := w) t tx ty e i e2 ht htx hi q0 0 0 (.slice q 0 xcap) 0 [] rfl (by rw [hisz]; exact hfc w rfl) (by omega)
        refine ⟨.value (.slice q0 0 0), .slice q0 0 0, w, I, ?_, .inl rfl, Inj.le_refl I, fun _ _ => rfl, fun _ => rfl, ?_, ?_⟩
        · cases q0 <;> simp at hr <;> simp [hr, storeCells]
        · rw [hu']; exact hs'.nowhere hn
        · simp only [VR]; exact .inl ⟨trivial, q0, rfl⟩
      · have hold : (Builtin.firstCells i.size 0 (.slice q0 0 0)).run P w.drew = .ok ([] : List Value).toArray w.drew := by
          cases q0 with
          | none => exact run_firstCells_none w.drew _ 0 0 0
          | some b => simp [Builtin.firstCells, loadCells, loadCellsFrom]
        have hr := run_append_grow' (w := w) t tx ty e i zv e2 ht htx hi hz0 q0 0 0 [] (.slice q m xcap) m vs hold rfl (by rw [hisz]; exact hfc w.drew rfl)
          (by omega) (by have := hle m hb; omega) (growslice_fits (by omega) (by rw [hiby]; simpa using hb))
        have hge := grownCap_ge w (0 + m) 0 e
        refine ⟨.value (.slice (some ⟨w.heap.size, 0, none⟩) m (grownCap w (0 + m) 0 e)), .slice (some ⟨w.heap.size, 0, none⟩) m (grownCap w (0 + m) 0 e), w.drew.alloc (.cells (vs.toArray ++ Builtin.zeroCells zv.cells (grownCap w (0 + m) 0 e - (0 + m))) e), I.put n (w.heap.size, 0, grownCap w (0 + m) 0 e * sz), ?_, .inl rfl, Inj.le_put hn, fun j hj => by simp [Inj.put, hj], fun hx => by simp at hx, ?_, ?_⟩
        · simp at hr; simp [hr]
        · rw [hu']
          have hbr := BR_new (e := e) (rest := Builtin.zeroCells zv.cells (grownCap w (0 + m) 0 e - (0 + m))) (ext := grownCap w (0 + m) 0 e * sz) hvs hone
            (by rw [← hnl, hvl']; exact Nat.mul_le_mul_right _ (by omega))
            (by rw [hvl', size_zeroCells', hzs, ← Nat.add_mul]; exact Nat.mul_le_mul_right _ (by omega))
          exact hs'.alloc (w1 := w.drew) hn hf' rfl hbr
        · simp only [VR]
          right
          refine ⟨w.heap.size, 0, grownCap w (0 + m) 0 e * sz, grownCap w (0 + m) 0 e, by simp [Inj.put], rfl, by omega, by omega⟩
    cases a <;> (try (simp at hrun; done))
    case nils =>
      simp only [VR] at ha
      simp only at hrun
      split at hrun
      · rename_i hm0
        simp only [okv, Option.some.injEq, Prod.mk.injEq, true_and] at hrun
        obtain ⟨rfl, rfl⟩ := hrun
        exact ⟨_, .slice none 0 0, w, I, room0 none hm0 ha, .inl rfl, Inj.le_refl I, fun _ _ => rfl, fun _ => rfl, hs, by simp [VR]⟩
      · rename_i hm0
        simp at hrun
        obtain ⟨hb, rfl, rfl⟩ := hrun
        obtain ⟨hn, hf⟩ := hnf (by simp)
        exact fresh0 none h [] hn ha hb hs hf (fun k => by simp [Heap.upd])
    case emp =>
      simp only [VR] at ha
      obtain ⟨q0, ha⟩ := ha
      simp only at hrun
      split at hrun
      · rename_i hm0
        simp only [okv, Option.some.injEq, Prod.mk.injEq, true_and] at hrun
        obtain ⟨rfl, rfl⟩ := hrun
        exact ⟨_, .slice q0 0 0, w, I, room0 q0 hm0 ha, .inl rfl, Inj.le_refl I, fun _ _ => rfl, fun _ => rfl, hs, by simp [VR]⟩
      · rename_i hm0
        simp at hrun
        obtain ⟨hb, rfl, rfl⟩ := hrun
        obtain ⟨hn, hf⟩ := hnf (by simp)
        exact fresh0 q0 h [] hn ha hb hs hf (fun k => by simp [Heap.upd])
    case slice id off ln sz' =>
      simp only at hrun
      split at hrun
      · rename_i hzz; subst hzz
        cases hat : h.at id with
        | none => simp [hat] at hrun
        | some bk =>
          cases bk with
          | map es => simp [hat] at hrun
          | cells cs =>
            simp [hat] at hrun
            obtain ⟨hfit, hb, rfl, rfl⟩ := hrun
            obtain ⟨hn, hf⟩ := hnf (by simp)
            have hin : id ≠ n := fun ee => by subst ee; rw [hat] at hf; cases hf
            simp only [VR] at ha
            rcases ha with ⟨rfl, q0, hca⟩ | ⟨b, base, ext, cap, hiid, hca, hcap, hx'⟩
            · have := fresh0 q0 (h.set id none) [(id, none)] hn hca (by simpa using hb) (hs.kill id) (by rw [Heap.at_set]; simp [hf]) (fun k => by simp [Heap.upd])
              simpa using this
            · obtain ⟨o, g2, g3, g4, g5⟩ := hs.ownOf hiid hat
              obtain ⟨c, el, rfl, k2, k3, k4⟩ := g5
              obtain ⟨os, hos, hrd⟩ := hs.cellsAt hiid hat
              have hol := VRs_length hos
              have holds : ((os.drop off).take (ln * sz')).length = ln * sz' := by simp; omega
              have hokd : VRs G I ((cs.drop off).take (ln * sz')) ((os.drop off).take (ln * sz')) := VRs_take (VRs_drop hos off) _
              have hcone : ((cs.drop off).take (ln * sz')).all AV.one = true := by
                rw [List.all_eq_true]
                intro y hy
                obtain ⟨j, hj, rfl⟩ := List.getElem_of_mem (List.mem_of_mem_drop (List.mem_of_mem_take hy))
                exact (k4 j _ (List.getElem?_eq_getElem hj)).1
              have hall : ((cs.drop off).take (ln * sz') ++ news).all AV.one = true := by simp only [List.all_append, hcone, hone, Bool.and_self]
              have hclen : ((cs.drop off).take (ln * sz')).length = ln * sz' := by simp; omega
              subst hca
              by_cases hroom : ln + m ≤ cap
              · have hcapsz : (ln + m) * sz' ≤ cap * sz' := Nat.mul_le_mul_right _ hroom
                rw [Nat.add_mul] at hcapsz
                have hr := run_append_room' (w := w) t tx ty e i e2 ht htx hi (some ⟨b, base + off, none⟩) ln cap (.slice q m xcap) m vs rfl (by rw [hisz]; exact hfc w rfl) hroom
                simp only [Addr.add_lit, hisz] at hr
                have hst := run_storeCells_at P b (base + off + ln * sz') el vs 0 c w g4 (by omega) (all_oneCell hvs hone)
                rw [hst] at hr
                refine ⟨.value (.slice (some ⟨b, base + off, none⟩) (ln + m) cap), _, _, I.put n (b, base + off, ext - off), by simp [hr]; rfl, .inl rfl, Inj.le_put hn, fun j hj => by simp [Inj.put, hj], fun hx => by simp at hx, ?_, ?_⟩
                · show St G L _ ((h.set id none).set n _) _
                  refine hs.pass hiid hat hn hf (setRow_heap_eq g4) ?_
                  refine ⟨_, el, rfl, ?_, ?_, ?_⟩
                  · rw [List.length_append, hclen, ← hnl, hvl']; omega
                  · simp; omega
                  · intro j y hj
                    refine ⟨(List.all_eq_true.1 hall) y (List.mem_of_getElem? hj), ?_⟩
                    simp only [Nat.add_zero, List.getElem?_toArray, List.append_assoc]
                    rcases Nat.lt_or_ge j (ln * sz') with hjl | hjl
                    · rw [List.getElem?_append_left (by rw [hclen]; exact hjl), List.getElem?_take, if_pos hjl, List.getElem?_drop] at hj
                      obtain ⟨_, y', hy1, hy2⟩ := k4 _ y hj
                      refine ⟨y', ?_, hy2⟩
                      rw [List.getElem?_append_left (by simp; omega), List.getElem?_take, if_pos (by omega)]
                      have e1 : base + off + j = base + (off + j) := by omega
                      rw [e1]; simpa using hy1
                    · rw [List.getElem?_append_right (by rw [hclen]; exact hjl), hclen] at hj
                      obtain ⟨y', hy1, hy2⟩ := VRs_get hvs hj
                      have hjl2 : j - ln * sz' < vs.length := (List.getElem?_eq_some_iff.1 hy1).1
                      refine ⟨y', ?_, hy2⟩
                      rw [List.getElem?_append_right (by simp; omega), List.getElem?_append_left (by simp; omega)]
                      have e1 : base + off + j - (c.toList.take (base + off + ln * sz')).length = j - ln * sz' := by simp; omega
                      rw [e1]; exact hy1
                · simp only [VR]
                  right
                  exact ⟨b, base + off, ext - off, cap, by simp [Inj.put], by simp, hroom, by omega⟩
              · have hold : (Builtin.firstCells i.size ln (.slice (some ⟨b, base + off, none⟩) ln cap)).run P w.drew = .ok ((os.drop off).take (ln * sz')).toArray w.drew := by
                  refine run_firstCells_some w.drew i.size ln ⟨b, base + off, none⟩ _ cap _ (by rw [holds, hisz]) fun j y hj => ?_
                  rw [Addr.add_lit]
                  exact ((hrd.drop off).take (ln * sz')) j y hj
                have hr := run_append_grow' (w := w) t tx ty e i zv e2 ht htx hi hz0 (some ⟨b, base + off, none⟩) ln cap _ (.slice q m xcap) m vs hold rfl (by rw [hisz]; exact hfc w.drew rfl)
                  (by omega) (by have := hle _ hb; omega) (growslice_fits (by omega) (by rw [hiby]; exact hb))
                have hge := grownCap_ge w (ln + m) cap e
                refine ⟨.value (.slice (some ⟨w.heap.size, 0, none⟩) (ln + m) (grownCap w (ln + m) cap e)), _, _, I.put n (w.heap.size, 0, grownCap w (ln + m) cap e * sz'), by simp [hr]; rfl, .inl rfl, Inj.le_put hn, fun j hj => by simp [Inj.put, hj], fun hx => by simp at hx, ?_, ?_⟩
                · show St G L _ ((h.set id none).set n _) _
                  have hbr := BR_new (e := e) (rest := Builtin.zeroCells zv.cells (grownCap w (ln + m) cap e - (ln + m))) (ext := grownCap w (ln + m) cap e * sz') (VRs_append hokd hvs) hall
                    (by rw [List.length_append, hclen, ← hnl, hvl', ← Nat.add_mul]; exact Nat.mul_le_mul_right _ (by omega))
                    (by rw [List.length_append, holds, hvl', size_zeroCells', hzs, ← Nat.add_mul, ← Nat.add_mul]; exact Nat.mul_le_mul_right _ (by omega))
                  have := (hs.kill id).alloc (w1 := w.drew) hn (by rw [Heap.at_set]; simp [hf]) rfl hbr
                  simpa using this
                · simp only [VR]
                  right
                  exact ⟨w.heap.size, 0, grownCap w (ln + m) cap e * sz', grownCap w (ln + m) cap e, by simp [Inj.put], by simp, by omega, by omega⟩
      · cases hrun
end
end Go.AM

namespace Go.AM
section
variable {P : Program} {w : World} {G : Snap} {L : Lk} {I : Inj} {h : Heap} {n : Nat}

theorem wrap64_small {a : Int} (h0 : 0 ≤ a) (h1 : a ≤ 140737488355328) : IntKind.i64.wrap a = a := by
  simp [IntKind.wrap, IntKind.bits, IntKind.signed]; omega

theorem mkslice_sound (hs : St G L I h w) (hn : I n = none) (hf : h.at n = none) {t e : TypeId} {sz by_ : Nat} {z : List AV} (ht : P.underlying t = some (.slice e))
    (hsz : szP P e = some sz) (hby : bytesP P e = some by_) (hz : zeroP P e = some z) (hzl : z.length = sz) (hs0 : 0 < sz) (hb0 : 0 < by_)
    {al ac : AV} {cl cc : Value} (hal : VR G I al cl) (hac : VR G I ac cc) {v : AV} {u : Upd}
    (hrun : (match (generalizing := false) al, ac with
      | .int .i64 a, .int .i64 b => if a = b then
          some (decide (0 ≤ a ∧ a * by_ ≤ 140737488355328) && z.all AV.one, .slice n 0 a.toNat sz, [(n, some (.cells ((List.replicate a.toNat z).flatten)))])
        else none
      | _, _ => (none : Res)) = some (true, v, u)) :
    Done P G L I h n (do let v ← Instr.makeSlice t cl cc; Pure.pure (Next.value v)) w v u := by
  obtain ⟨i, zv, hi, hz0, hzv, hz1⟩ := zeroP_sound (G := G) (I := I) hz
  have hisz : i.size = sz := by simp [szP, hi] at hsz; exact hsz
  have hiby : i.bytes = by_ := by simp [bytesP, hi] at hby; exact hby
  have hzs : zv.cells.size = sz := by have := VRs_length hzv; simp at this; omega
  cases al <;> (try (simp at hrun; done)) <;> cases ac <;> (try (simp at hrun; done))
  rename_i k a k' b
  cases k <;> (try (simp at hrun; done)) <;> cases k' <;> (try (simp at hrun; done))
  simp only at hrun
  split at hrun
  · rename_i hab; subst hab
    simp at hrun
    obtain ⟨⟨⟨h0, hb⟩, hone⟩, rfl, rfl⟩ := hrun
    have hcl := VR_int hal; subst hcl
    have hcc := VR_int hac; subst hcc
    obtain ⟨m, rfl⟩ := Int.eq_ofNat_of_zero_le h0
    have hbn : m * by_ ≤ 140737488355328 := by
      have : ((m * by_ : Nat) : Int) ≤ 140737488355328 := by simpa using hb
      omega
    have hm : m ≤ 140737488355328 := Nat.le_trans (Nat.le_mul_of_pos_right m hb0) hbn
    have hw := wrap64_small (a := (m : Int)) h0 (by omega)
    have h48 : ¬ ((281474976710656 : Int) < (i.bytes : Int) * (m : Int)) := by
      rw [hiby]
      have : ((by_ : Int) * (m : Int)) = ((m * by_ : Nat) : Int) := by rw [Int.mul_comm]; simp
      rw [this]; omega
    have hroom : ¬ (140737488355328 < m * i.bytes) := by rw [hiby]; omega
    have hcells : ((Array.range (m * sz)).map (zv.cells[· % zv.cells.size]!)).toList = (List.replicate m zv.cells.toList).flatten := by
      rw [← hzs]; exact range_zeros zv.cells m (by omega)
    have hv' := VRs_replicate hzv m
    have hr : ∃ ca : Array Value, ca.toList = (List.replicate m zv.cells.toList).flatten ∧
        (do let v ← Instr.makeSlice t (.int .i64 (m : Int)) (.int .i64 (m : Int)); Pure.pure (Next.value v) : Sem Next).run P w = .ok (.value (.slice (some ⟨w.heap.size, 0, none⟩) m m)) (w.alloc (.cells ca e)) := by
      by_cases hm0 : m = 0
      · subst hm0
        refine ⟨#[], by simp, ?_⟩
        have hr0 : Array.range 0 = (#[] : Array Nat) := rfl
        have hw0 : IntKind.i64.wrap 0 = 0 := by decide
        simp [Instr.makeSlice, run_underlying ht, asInt, asIntOf, typeInfo, hi, hw0, askRoom, roomBytes, sizeOf, newRow, hr0]
      · refine ⟨_, hcells, ?_⟩
        have hne : ¬ (m * sz = 0) := by
          intro hx; rcases Nat.mul_eq_zero.1 hx with q | q <;> omega
        simp [Instr.makeSlice, run_underlying ht, asInt, asIntOf, typeInfo, hi, hw, h48, askRoom, roomBytes, hroom, sizeOf, hisz, hne, zeroValue, hz0, newRow]
        intro hneg; omega
    obtain ⟨ca, hca, hr⟩ := hr
    refine Done.new (ext := m * sz) hs hn hf rfl hr ?_ ?_
    · have hl := VRs_length hv'
      have := BR_new (e := e) (rest := #[]) (ext := m * sz) hv' (all_replicate hz1 m) (by simp [hzl]) (by simp [hzs])
      have e2 : ca = ((List.replicate m zv.cells.toList).flatten).toArray := by rw [← hca]
      rw [e2]
      simpa using this
    · simp only [VR]
      exact .inr ⟨w.heap.size, 0, m * sz, m, by simp [Inj.put], by simp, by simp, by omega⟩
  · cases hrun

theorem mkmap_sound (hs : St G L I h w) (hn : I n = none) (hf : h.at n = none) {t : TypeId} :
    Done P G L I h n (do let v ← Instr.makeMap t none; Pure.pure (Next.value v)) w (.mapr n) [(n, some (.map []))] := by
  have hr : (do let v ← Instr.makeMap t none; Pure.pure (Next.value v) : Sem Next).run P w = .ok (.value (.map (some w.heap.size))) (w.alloc (.map #[] 0)) := by
    simp [Instr.makeMap]
  refine Done.new (ext := 0) hs hn hf rfl hr ?_ ?_
  · exact ⟨#[], 0, rfl, by simp [VRs], by simp [VRs]⟩
  · simp [VR, Inj.put]

theorem mkif_sound {t : TypeId} {d : TypeDesc} (hu : P.underlying t = some d) (hd : ∀ ms, d ≠ .interface ms) {a : AV} {c : Value} (ha : VR G I a c) :
    ∃ cv, (Instr.makeInterface t c).run P w = .ok cv w ∧ VR G I (.iface t a) cv := by
  refine ⟨.iface t c, ?_, by simp only [VR]; exact ⟨c, rfl, ha⟩⟩
  cases d <;> (try (exact absurd rfl (hd _))) <;> simp [Instr.makeInterface, run_underlying hu]

theorem tassert_sound {t : TypeId} {d : TypeDesc} (hu : P.underlying t = some d) (hd : ∀ ms, d ≠ .interface ms) {z : AV} (hz : zeroV P t = some z) {ok : Bool} {xt : TypeId}
    {a v : AV} {c : Value} {u : Upd} (ha : VR G I a c)
    (hrun : (match (generalizing := false) a with
      | .iface u v => if u = t then okv (if ok then .tup [v, .bool true] else v) else if ok then okv (.tup [z, .bool false]) else none
      | .nilif => if ok then okv (.tup [z, .bool false]) else none
      | _ => (none : Res)) = some (true, v, u)) : u = [] ∧ ∃ cv, (Instr.typeAssert c xt t ok).run P w = .ok cv w ∧ VR G I v cv := by
  obtain ⟨zv, hzr, hzv⟩ := zeroV_sound (P := P) (w := w) (G := G) (I := I) hz
  have tup2 : ∀ {a1 a2 : AV} {c1 c2 : Value}, VR G I a1 c1 → VR G I a2 c2 → VR G I (.tup [a1, a2]) (.tuple #[c1, c2]) := by
    intro a1 a2 c1 c2 h1 h2
    simp only [VR, VRs]
    exact ⟨[c1, c2], rfl, c1, [c2], rfl, h1, c2, [], rfl, h2, rfl⟩
  cases a <;> (try (simp at hrun; done))
  case nilif =>
    simp only at hrun
    split at hrun
    · rename_i hok; subst hok
      simp [okv] at hrun; obtain ⟨rfl, rfl⟩ := hrun
      simp only [VR] at ha; subst ha
      refine ⟨rfl, _, ?_, tup2 hzv VRbool⟩
      cases d <;> (try (exact absurd rfl (hd _))) <;> simp [Instr.typeAssert, run_underlying hu, hzr]
    · cases hrun
  case iface ut uv =>
    simp only [VR] at ha
    obtain ⟨v', rfl, hv'⟩ := ha
    simp only at hrun
    split at hrun
    · rename_i hut; subst hut
      simp [okv] at hrun; obtain ⟨rfl, rfl⟩ := hrun
      cases ok with
      | true =>
        refine ⟨rfl, _, ?_, tup2 hv' VRbool⟩
        cases d <;> (try (exact absurd rfl (hd _))) <;> simp [Instr.typeAssert, run_underlying hu]
      | false =>
        refine ⟨rfl, _, ?_, hv'⟩
        cases d <;> (try (exact absurd rfl (hd _))) <;> simp [Instr.typeAssert, run_underlying hu]
    · rename_i hut
      split at hrun
      · rename_i hok; subst hok
        simp [okv] at hrun; obtain ⟨rfl, rfl⟩ := hrun
        refine ⟨rfl, _, ?_, tup2 hzv VRbool⟩
        cases d <;> (try (exact absurd rfl (hd _))) <;> simp [Instr.typeAssert, run_underlying hu, hut, hzr]
      · cases hrun
end
end Go.AM

namespace Go.AM
section
variable {P : Program} {w : World} {G : Snap} {L : Lk} {I : Inj} {h : Heap} {n : Nat}

theorem run_forIn_unit {α : Type} (X : α → Sem Unit) : ∀ (l : List α) (w : World), (∀ i ∈ l, (X i).run P w = .ok () w) →
    (forIn l PUnit.unit (fun i _ => do X i; Pure.pure (ForInStep.yield PUnit.unit)) : Sem PUnit).run P w = .ok PUnit.unit w
  | [], w, _ => by simp
  | i :: l, w, hx => by
    simp only [List.forIn_cons, Sem.run_bind, hx i (by simp), Result.andThen_ok, Sem.run_pure]
    exact run_forIn_unit X l w fun j hj => hx j (by simp [hj])

theorem checkKey_flat (em : Bool) : ∀ (d : Nat) (t : TypeId) (D : Nat), flatInts P d t = true → d ≤ D → ∀ (w : World) (m : Nat) (xs : List Value), szP P t = some m → xs.length = m →
    (∀ v ∈ xs, ∃ k a, v = .int k a) → (Instr.checkKey em D t (mkV P t xs)).run P w = .ok () w
  | 0, t, D, hf, _, _, _, _, _, _, _ => by simp [flatInts] at hf
  | d + 1, t, 0, hf, hd, _, _, _, _, _, _ => by omega
  | d + 1, t, D + 1, hf, hd, w, m, xs, hm, hl, hints => by
    have hf0 := hf
    unfold flatInts at hf
    cases hu : P.underlying t with
    | none => simp [hu] at hf
    | some k =>
      cases k <;> simp [hu, hm] at hf
      case int q =>
        subst hf
        cases xs with
        | nil => simp at hl
        | cons x xs =>
          obtain ⟨k, a, rfl⟩ := hints x (by simp)
          simp [mkV, hu, Instr.checkKey, run_underlying hu]
      case struct fs =>
        obtain ⟨⟨h1, h2⟩, h3⟩ := hf
        have hmk : mkV P t xs = .agg xs.toArray := by simp [mkV, hu]
        rw [hmk]
        simp only [Instr.checkKey, Sem.run_bind, run_underlying hu, Result.andThen_ok]
        rw [← Array.forIn_toList]
        have hall : ∀ f ∈ fs.toList, f.name ≠ "_" ∧ flatInts P d f.type = true := by
          intro f hf
          obtain ⟨i, hi, rfl⟩ := Array.getElem_of_mem (Array.mem_toList_iff.1 hf)
          exact h2 i hi
        have key : ∀ (l : List Field) (o n' : Nat), contig P o l = some n' → n' ≤ xs.length → (∀ f ∈ l, f.name ≠ "_" ∧ flatInts P d f.type = true) →
            ∀ f ∈ l, ∃ s, szP P f.type = some s ∧ f.offset + s ≤ xs.length := by
          intro l
          induction l with
          | nil => intro o n' _ _ _ f hf; simp at hf
          | cons g l ih =>
            intro o n' hc hn hg f hf
            simp only [contig] at hc
            split at hc
            · rename_i ho
              split at hc
              · rename_i s hs
                have hle := contig_le hc
                rcases List.mem_cons.1 hf with rfl | hf
                · exact ⟨s, hs, by omega⟩
                · exact ih _ _ hc hn (fun x hx => hg x (by simp [hx])) f hf
              · cases hc
            · cases hc
        have key2 := key fs.toList 0 m h3 (by omega) hall
        have hrun : ∀ f ∈ fs.toList, (do Instr.checkKey em D f.type (← Go.part f.type xs.toArray f.offset) : Sem Unit).run P w = .ok () w := by
          intro f hf
          obtain ⟨s, hs, hle⟩ := key2 f hf
          have hff := (hall f hf).2
          have p1 := run_part_mk (w := w) hs ⟨d, hff⟩ xs f.offset hle
          simp only [Sem.run_bind, p1, Result.andThen_ok]
          exact checkKey_flat em d f.type D hff (by omega) w s _ hs (by simp; omega) fun v hv => hints v (List.mem_of_mem_drop (List.mem_of_mem_take hv))
        clear key key2 h2 h3 hf0 hints
        generalize fs.toList = l at hall hrun
        induction l with
        | nil => simp
        | cons f l ih =>
          have hn := (hall f (by simp)).1
          have hr := hrun f (by simp)
          simp only [Sem.run_bind] at hr
          simp only [List.forIn_cons, hn, ne_eq, not_false_eq_true, if_true, Sem.run_bind]
          cases hp : (Go.part f.type xs.toArray f.offset).run P w with
          | halt x w1 => simp [hp, Result.andThen] at hr
          | ok a w1 =>
            rw [hp] at hr
            simp only [Result.andThen_ok] at hr ⊢
            rw [hr]
            simp only [Result.andThen_ok, Sem.run_pure]
            exact ih (fun g hg => hall g (by simp [hg])) (fun g hg => hrun g (by simp [hg]))
      case array cnt e =>
        obtain ⟨h1, h2⟩ := hf
        cases hs : szP P e with
        | none => simp [hs] at h2
        | some s =>
          simp [hs] at h2
          have hmk : mkV P t xs = .agg xs.toArray := by simp [mkV, hu]
          rw [hmk]
          simp only [Instr.checkKey, Sem.run_bind, run_underlying hu, Result.andThen_ok, Std.Legacy.Range.forIn_eq_forIn_range', Std.Legacy.Range.size, Nat.sub_zero, Nat.add_one_sub_one, Nat.div_one]
          have hrun : ∀ i ∈ List.range' 0 cnt 1, (do Instr.checkKey em D e (← Go.part e xs.toArray (i * (← Go.sizeOf e))) : Sem Unit).run P w = .ok () w := by
            intro i hi
            have hi' : i < cnt := by simp [List.mem_range'] at hi; omega
            have hb : i * s + s ≤ xs.length := by
              rw [hl, h2]
              have : (i + 1) * s ≤ cnt * s := Nat.mul_le_mul_right _ hi'
              rw [Nat.add_mul] at this; omega
            have p1 := run_part_mk (w := w) hs ⟨d, h1⟩ xs (i * s) hb
            simp only [Sem.run_bind, run_sizeOf hs, p1, Result.andThen_ok]
            exact checkKey_flat em d e D h1 (by omega) w s _ hs (by simp; omega) fun v hv => hints v (List.mem_of_mem_drop (List.mem_of_mem_take hv))
          generalize List.range' 0 cnt 1 = l at hrun
          clear h2 hf0
          induction l with
          | nil => simp
          | cons f l ih =>
            have hr := hrun f (by simp)
            simp only [Sem.run_bind, run_sizeOf hs, Result.andThen_ok] at hr
            simp only [List.forIn_cons, Sem.run_bind, run_sizeOf hs, Result.andThen_ok]
            cases hp : (Go.part e xs.toArray (f * s)).run P w with
            | halt x w1 => simp [hp, Result.andThen] at hr
            | ok a w1 =>
              rw [hp] at hr
              simp only [Result.andThen_ok] at hr ⊢
              rw [hr]
              simp only [Result.andThen_ok, Sem.run_pure]
              exact ih (fun g hg => hrun g (by simp [hg]))

theorem eqInts_ints_mem : ∀ {as bs : List AV} {r : Bool}, eqInts as bs = some r → ∀ a ∈ as, ∃ k x, a = .int k x
  | [], bs, r, h, a, ha => by simp at ha
  | a :: as, [], r, h, x, hx => by cases a <;> simp [eqInts] at h
  | a :: as, b :: bs, r, h, x, hx => by
    cases a <;> (try (simp [eqInts] at h; done)) <;> cases b <;> (try (simp [eqInts] at h; done))
    simp only [eqInts] at h
    split at h
    · cases h3 : eqInts as bs with
      | none => simp [h3] at h
      | some c =>
        rcases List.mem_cons.1 hx with rfl | hx
        · exact ⟨_, _, rfl⟩
        · exact eqInts_ints_mem h3 x hx
    · cases h
end
end Go.AM

namespace Go.AM
section
variable {P : Program} {w : World} {G : Snap} {L : Lk} {I : Inj} {h : Heap} {n : Nat}

/-- A key that may be hashed. -/
def KeyOK (ag : EqK) (a : AV) : Prop :=
  match ag, a with
  | .b, .bool _ => True
  | .i, .int _ _ => True
  | .s, .str _ => True
  | .g m, .agg as => as.length = m ∧ ∀ x ∈ as, ∃ k y, x = .int k y
  | _, _ => False

theorem checkKey_sound {t : TypeId} {ag : EqK} (hk : eqK P t = some ag) (em : Bool) {a : AV} {c : Value} (ha : VR G I a c) (hok : KeyOK ag a) : (Instr.checkKey em 10000 t c).run P w = .ok () w := by
  have base : ∀ (d : Nat) (D : TypeDesc) (v : Value), P.underlying t = some D → (D = .bool ∨ D = .string ∨ ∃ q, D = .int q) → (Instr.checkKey em (d + 1) t v).run P w = .ok () w := by
    intro d D v hu hD
    rcases hD with rfl | rfl | ⟨q, rfl⟩ <;> simp [Instr.checkKey, run_underlying hu]
  cases ag with
  | b =>
    have hu : P.underlying t = some .bool := by
      unfold eqK at hk
      cases hu : P.underlying t with
      | none => simp [hu] at hk
      | some d => cases d <;> simp [hu] at hk ⊢
    exact base 9999 _ c hu (.inl rfl)
  | i =>
    have hu : ∃ q, P.underlying t = some (.int q) := by
      unfold eqK at hk
      cases hu : P.underlying t with
      | none => simp [hu] at hk
      | some d => cases d <;> simp [hu] at hk ⊢
    obtain ⟨q, hu⟩ := hu
    exact base 9999 _ c hu (.inr (.inr ⟨q, rfl⟩))
  | s =>
    have hu : P.underlying t = some .string := by
      unfold eqK at hk
      cases hu : P.underlying t with
      | none => simp [hu] at hk
      | some d => cases d <;> simp [hu] at hk ⊢
    exact base 9999 _ c hu (.inr (.inl rfl))
  | g m =>
    cases a <;> (try (simp [KeyOK] at hok; done))
    rename_i as
    obtain ⟨hl, hints⟩ := hok
    simp only [VR] at ha
    obtain ⟨xs, rfl, hx⟩ := ha
    have h1 := mkV_agg (ag := .g m) hk xs
    have := checkKey_flat em 4 t 10000 h1.2.1 (by omega) w m xs h1.2.2 (by rw [VRs_length hx]; exact hl) (fun v hv => by
      obtain ⟨a, ha, hr⟩ := VRs_mem hx v hv
      obtain ⟨k, y, rfl⟩ := hints a ha
      exact ⟨k, y, VR_int hr⟩)
    rwa [h1.1] at this

theorem findAsking_sound {t : TypeId} {ag : EqK} (hk : eqK P t = some ag) {k : AV} {ck : Value} (hck : VR G I k ck) : ∀ (es : List (AV × AV)) (mes : List MapEntry) (i0 : Nat) (r : Option (Nat × AV)),
    VRs G I (es.map (·.1)) (mes.map (·.key)) → VRs G I (es.map (·.2)) (mes.map (·.val)) → AM.findKey ag es k = some r →
    ∃ cr, (Instr.findAsking t ck mes i0).run P w = .ok cr w ∧ (match r with
      | none => cr = none
      | some (i, v) => ∃ cv, cr = some (i0 + i, cv) ∧ VR G I v cv ∧ i < es.length)
  | [], mes, i0, r, h1, h2, hr => by
    simp [VRs] at h1; subst h1
    simp [AM.findKey] at hr; subst hr
    exact ⟨none, by simp [Instr.findAsking], rfl⟩
  | (k', v') :: es, [], i0, r, h1, h2, hr => by simp [VRs] at h1
  | (k', v') :: es, m :: mes, i0, r, h1, h2, hr => by
    simp only [List.map_cons, VRs, List.cons.injEq] at h1 h2
    obtain ⟨_, _, ⟨rfl, rfl⟩, hk1, hk2⟩ := h1
    obtain ⟨_, _, ⟨rfl, rfl⟩, hv1, hv2⟩ := h2
    simp only [AM.findKey] at hr
    cases he : AV.eqv ag k k' with
    | none => simp [he] at hr
    | some b =>
      have hq := equal_sound (w := w) hk hck hk1 he
      cases b with
      | true =>
        simp [he] at hr; subst hr
        exact ⟨_, by simp [Instr.findAsking, hq], _, rfl, hv1, by simp⟩
      | false =>
        simp only [he] at hr
        cases hf : AM.findKey ag es k with
        | none => simp [hf] at hr
        | some r' =>
          obtain ⟨cr, g1, g2⟩ := findAsking_sound hk hck es mes (i0 + 1) r' hk2 hv2 hf
          refine ⟨cr, by simp [Instr.findAsking, hq, g1], ?_⟩
          cases r' with
          | none => simp [hf] at hr; subst hr; exact g2
          | some p =>
            obtain ⟨i, v⟩ := p
            simp [hf] at hr; subst hr
            obtain ⟨cv, rfl, g3, g4⟩ := g2
            exact ⟨cv, by congr 2; omega, g3, by simp; omega⟩

theorem sameNow_sound {t : TypeId} {ag : EqK} {d : TypeDesc} (hk : eqK P t = some ag) (hu : P.underlying t = some d) {k k' : AV} {ck ck' : Value} (h1 : VR G I k ck) (h2 : VR G I k' ck') {b : Bool}
    (he : AV.eqv ag k k' = some b) : Instr.sameNow d ck ck' = some b ∨ (Instr.sameNow d ck ck' = none ∧ ∃ m, ag = .g m) := by
  unfold eqK at hk
  simp only [hu] at hk
  cases ag with
  | b =>
    simp only [AV.eqv] at he
    cases k <;> (try (simp at he; done)) <;> cases k' <;> (try (simp at he; done))
    simp only [Option.some.injEq] at he; subst he
    have := VR_bool h1; subst this
    have := VR_bool h2; subst this
    cases d <;> simp at hk <;> simp [Instr.sameNow]
  | i =>
    simp only [AV.eqv] at he
    cases k <;> (try (simp at he; done)) <;> cases k' <;> (try (simp at he; done))
    simp only at he
    split at he
    · rename_i hj; subst hj
      simp only [Option.some.injEq] at he; subst he
      have := VR_int h1; subst this
      have := VR_int h2; subst this
      cases d <;> simp at hk <;> simp [Instr.sameNow]
    · cases he
  | s =>
    simp only [AV.eqv] at he
    cases k <;> (try (simp at he; done)) <;> cases k' <;> (try (simp at he; done))
    simp only [Option.some.injEq] at he; subst he
    have := VR_str h1; subst this
    have := VR_str h2; subst this
    cases d <;> simp at hk <;> simp [Instr.sameNow]
  | g m =>
    simp only [AV.eqv] at he
    cases k <;> (try (simp at he; done)) <;> cases k' <;> (try (simp at he; done))
    simp only [VR] at h1 h2
    obtain ⟨xs, rfl, _⟩ := h1
    obtain ⟨ys, rfl, _⟩ := h2
    right
    refine ⟨?_, m, rfl⟩
    cases d <;> simp at hk <;> simp [Instr.sameNow]

theorem findNow_sound {t : TypeId} {ag : EqK} {d : TypeDesc} (hk : eqK P t = some ag) (hu : P.underlying t = some d) {k : AV} {ck : Value} (hck : VR G I k ck) : ∀ (es : List (AV × AV)) (mes : List MapEntry) (i0 : Nat) (r : Option (Nat × AV)),
    VRs G I (es.map (·.1)) (mes.map (·.key)) → VRs G I (es.map (·.2)) (mes.map (·.val)) → AM.findKey ag es k = some r →
    Instr.findNow d ck mes i0 = none ∨ ∃ cr, Instr.findNow d ck mes i0 = some cr ∧ (match r with
      | none => cr = none
      | some (i, v) => ∃ cv, cr = some (i0 + i, cv) ∧ VR G I v cv ∧ i < es.length)
  | [], mes, i0, r, h1, h2, hr => by
    simp [VRs] at h1; subst h1
    simp [AM.findKey] at hr; subst hr
    exact .inr ⟨none, rfl, rfl⟩
  | (k', v') :: es, [], i0, r, h1, h2, hr => by simp [VRs] at h1
  | (k', v') :: es, m :: mes, i0, r, h1, h2, hr => by
    simp only [List.map_cons, VRs, List.cons.injEq] at h1 h2
    obtain ⟨_, _, ⟨rfl, rfl⟩, hk1, hk2⟩ := h1
    obtain ⟨_, _, ⟨rfl, rfl⟩, hv1, hv2⟩ := h2
    simp only [AM.findKey] at hr
    cases he : AV.eqv ag k k' with
    | none => simp [he] at hr
    | some b =>
      rcases sameNow_sound hk hu hck hk1 he with hs | ⟨hs, _⟩
      · cases b with
        | true =>
          simp [he] at hr; subst hr
          exact .inr ⟨_, by simp [Instr.findNow, hs], _, rfl, hv1, by simp⟩
        | false =>
          simp only [he] at hr
          cases hf : AM.findKey ag es k with
          | none => simp [hf] at hr
          | some r' =>
            rcases findNow_sound hk hu hck es mes (i0 + 1) r' hk2 hv2 hf with g | ⟨cr, g1, g2⟩
            · exact .inl (by simp [Instr.findNow, hs, g])
            · refine .inr ⟨cr, by simp [Instr.findNow, hs, g1], ?_⟩
              cases r' with
              | none => simp [hf] at hr; subst hr; exact g2
              | some p =>
                obtain ⟨i, v⟩ := p
                simp [hf] at hr; subst hr
                obtain ⟨cv, rfl, g3, g4⟩ := g2
                exact ⟨cv, by congr 2; omega, g3, by simp; omega⟩
      · exact .inl (by simp [Instr.findNow, hs])

theorem findKey_sound {t : TypeId} {ag : EqK} (hk : eqK P t = some ag) {k : AV} {ck : Value} (hck : VR G I k ck) {es : List (AV × AV)} {mes : List MapEntry} {r : Option (Nat × AV)}
    (h1 : VRs G I (es.map (·.1)) (mes.map (·.key))) (h2 : VRs G I (es.map (·.2)) (mes.map (·.val))) (hr : AM.findKey ag es k = some r) :
    ∃ cr, (Instr.findKey t ck mes).run P w = .ok cr w ∧ (match r with
      | none => cr = none
      | some (i, v) => ∃ cv, cr = some (i, cv) ∧ VR G I v cv ∧ i < es.length) := by
  have hu : ∃ d, P.underlying t = some d := by
    unfold eqK at hk
    cases hu : P.underlying t with
    | none => simp [hu] at hk
    | some d => exact ⟨d, rfl⟩
  obtain ⟨d, hu⟩ := hu
  rcases findNow_sound hk hu hck es mes 0 r h1 h2 hr with g | ⟨cr, g1, g2⟩
  · obtain ⟨cr, g1, g2⟩ := findAsking_sound (w := w) hk hck es mes 0 r h1 h2 hr
    refine ⟨cr, by simp [Instr.findKey, run_underlying hu, g, g1], ?_⟩
    cases r <;> simpa using g2
  · refine ⟨cr, by simp [Instr.findKey, run_underlying hu, g1], ?_⟩
    cases r <;> simpa using g2

theorem keyB_OK {ag : EqK} {a : AV} (hb : keyB ag a = true) : KeyOK ag a := by
  cases ag <;> cases a <;> simp [keyB, KeyOK] at hb ⊢
  rename_i m as
  obtain ⟨h1, h2⟩ := hb
  refine ⟨h1, fun x hx => ?_⟩
  have := h2 x hx
  cases x <;> simp [AV.isI] at this ⊢

theorem VRs_map1 {es : List (AV × AV)} {mes : Array MapEntry} (h1 : VRs G I (es.map (·.1)) (mes.toList.map (·.key))) : mes.size = es.length := by
  have := VRs_length h1; simpa using this

theorem look_sound (hs : St G L I h w) {t kt e : TypeId} {ag : EqK} {z : AV} (hu : P.underlying t = some (.map kt e)) (hz : zeroV P e = some z) (hk : eqK P kt = some ag) {ok : Bool}
    {am ak v : AV} {cm ck : Value} {u : Upd} (ham : VR G I am cm) (hak : VR G I ak ck)
    (hrun : (let es : Option (List (AV × AV)) := match (generalizing := false) am with
        | .nilmap => some []
        | .mapr id => match h.at id with
          | some (.map es) => some es
          | _ => none
        | _ => none
      match es with
      | some es => match AM.findKey ag es ak with
        | some (some (_, v)) => oki (keyB ag ak) (if ok then .tup [v, .bool true] else v)
        | some none => oki (keyB ag ak) (if ok then .tup [z, .bool false] else z)
        | none => none
      | none => (none : Res)) = some (true, v, u)) : u = [] ∧ ∃ cv, (Instr.lookup t cm ck ok).run P w = .ok cv w ∧ VR G I v cv := by
  obtain ⟨zv, hzr, hzv⟩ := zeroV_sound (P := P) (w := w) (G := G) (I := I) hz
  have tup2 : ∀ {a1 a2 : AV} {c1 c2 : Value}, VR G I a1 c1 → VR G I a2 c2 → VR G I (.tup [a1, a2]) (.tuple #[c1, c2]) := by
    intro a1 a2 c1 c2 h1 h2
    simp only [VR, VRs]
    exact ⟨[c1, c2], rfl, c1, [c2], rfl, h1, c2, [], rfl, h2, rfl⟩
  have core : ∀ (es : List (AV × AV)) (mes : Array MapEntry) (cm' : Value),
      (∀ (cr : Option (Nat × Value)), (Instr.checkKey mes.isEmpty 10000 kt ck).run P w = .ok () w → (Instr.findKey kt ck mes.toList).run P w = .ok cr w →
        (Instr.lookup t cm' ck ok).run P w = (match cr with | some (_, v) => .ok (if ok then .tuple #[v, .bool true] else v) w | none => .ok (if ok then .tuple #[zv, .bool false] else zv) w)) →
      VRs G I (es.map (·.1)) (mes.toList.map (·.key)) → VRs G I (es.map (·.2)) (mes.toList.map (·.val)) →
      (match AM.findKey ag es ak with
        | some (some (_, v)) => oki (keyB ag ak) (if ok then .tup [v, .bool true] else v)
        | some none => oki (keyB ag ak) (if ok then .tup [z, .bool false] else z)
        | none => (none : Res)) = some (true, v, u) →
      u = [] ∧ ∃ cv, (Instr.lookup t cm' ck ok).run P w = .ok cv w ∧ VR G I v cv := by
    intro es mes cm' hform h1 h2 hr
    cases hf : AM.findKey ag es ak with
    | none => simp [hf] at hr
    | some r =>
      obtain ⟨cr, g1, g2⟩ := findKey_sound (w := w) hk hak h1 h2 hf
      cases r with
      | none =>
        simp [hf, oki] at hr
        obtain ⟨hkb, rfl, rfl⟩ := hr
        subst g2
        have hck := checkKey_sound (w := w) hk mes.isEmpty hak (keyB_OK hkb)
        refine ⟨rfl, (if ok then .tuple #[zv, .bool false] else zv), hform _ hck g1, ?_⟩
        cases ok
        · exact hzv
        · exact tup2 hzv VRbool
      | some p =>
        obtain ⟨i, v'⟩ := p
        simp [hf, oki] at hr
        obtain ⟨hkb, rfl, rfl⟩ := hr
        obtain ⟨cv, rfl, g3, g4⟩ := g2
        have hck := checkKey_sound (w := w) hk mes.isEmpty hak (keyB_OK hkb)
        refine ⟨rfl, (if ok then .tuple #[cv, .bool true] else cv), hform _ hck g1, ?_⟩
        cases ok
        · exact g3
        · exact tup2 g3 VRbool
  cases am <;> (try (simp at hrun; done))
  case nilmap =>
    simp only [VR] at ham; subst ham
    refine core [] #[] _ (fun cr h1 h2 => ?_) (by simp [VRs]) (by simp [VRs]) hrun
    simp at h1 h2
    cases cr <;> cases ok <;> simp [Instr.lookup, run_underlying hu, h1, h2, hzr]
  case mapr id =>
    simp only [VR] at ham
    obtain ⟨b, base, ext, hi, rfl⟩ := ham
    cases hat : h.at id with
    | none => simp [hat] at hrun
    | some bk =>
      cases bk with
      | cells cs => simp [hat] at hrun
      | map es =>
        simp only [hat] at hrun
        obtain ⟨o, g2, g3, g4, g5⟩ := hs.ownOf hi hat
        obtain ⟨mes, clock, rfl, g6, g7⟩ := g5
        refine core es mes _ (fun cr h1 h2 => ?_) g6 g7 hrun
        have hget : (getObj b).run P w = .ok (.map mes clock) w := by simp [getObj, Sem.run, g4]
        cases cr <;> cases ok <;> simp [Instr.lookup, run_underlying hu, hget, h1, h2, hzr]

theorem sameBits_ints : ∀ {as bs : List AV} {xs ys : List Value} (d : Nat), VRs G I as xs → VRs G I bs ys → eqInts as bs = some true → xs.length = ys.length ∧ ∀ p ∈ xs.zip ys, Instr.sameBits d p.1 p.2 = true
  | [], [], xs, ys, d, h1, h2, h => by simp [VRs] at h1 h2; subst h1; subst h2; simp
  | a :: as, [], xs, ys, d, h1, h2, h => by cases a <;> simp [eqInts] at h
  | [], b :: bs, xs, ys, d, h1, h2, h => by simp [eqInts] at h
  | a :: as, b :: bs, xs, ys, d, h1, h2, h => by
    cases a <;> (try (simp [eqInts] at h; done)) <;> cases b <;> (try (simp [eqInts] at h; done))
    simp only [VRs] at h1 h2
    obtain ⟨x, xs', rfl, hx, hxs⟩ := h1
    obtain ⟨y, ys', rfl, hy, hys⟩ := h2
    have := VR_int hx; subst this
    have := VR_int hy; subst this
    simp only [eqInts] at h
    split at h
    · rename_i hk; subst hk
      cases h3 : eqInts as bs with
      | none => simp [h3] at h
      | some c =>
        simp [h3] at h
        obtain ⟨e1, e2⟩ := h
        subst e2
        obtain ⟨g1, g2⟩ := sameBits_ints d hxs hys h3
        refine ⟨by simp [g1], fun p hp => ?_⟩
        simp only [List.zip_cons_cons, List.mem_cons] at hp
        rcases hp with rfl | hp
        · cases d <;> simp [Instr.sameBits, e1]
        · exact g2 p hp
    · cases h

theorem sameBits_sound {ag : EqK} {a b : AV} {ca cb : Value} (ha : VR G I a ca) (hb : VR G I b cb) (he : AV.eqv ag a b = some true) : Instr.sameBits 10000 cb ca = true := by
  have key : ∀ d, Instr.sameBits (d + 1) cb ca = true := by
    intro d
    cases ag with
    | b =>
      simp only [AV.eqv] at he
      cases a <;> (try (simp at he; done)) <;> cases b <;> (try (simp at he; done))
      simp at he
      have := VR_bool ha; subst this
      have := VR_bool hb; subst this
      simp [Instr.sameBits, he]
    | i =>
      simp only [AV.eqv] at he
      cases a <;> (try (simp at he; done)) <;> cases b <;> (try (simp at he; done))
      simp at he
      have := VR_int ha; subst this
      have := VR_int hb; subst this
      simp [Instr.sameBits, he]
    | s =>
      simp only [AV.eqv] at he
      cases a <;> (try (simp at he; done)) <;> cases b <;> (try (simp at he; done))
      simp only [Option.some.injEq] at he
      have := VR_str ha; subst this
      have := VR_str hb; subst this
      rw [beq_toListBytes] at he
      simp only [Instr.sameBits]
      rw [beq_toListBytes]
      simp only [beq_iff_eq] at he ⊢
      exact he.symm
    | g m =>
      simp only [AV.eqv] at he
      cases a <;> (try (simp at he; done)) <;> cases b <;> (try (simp at he; done))
      simp only at he
      split at he
      · simp only [VR] at ha hb
        obtain ⟨xs, rfl, hx⟩ := ha
        obtain ⟨ys, rfl, hy⟩ := hb
        rename_i as bs _
        have hsym : eqInts bs as = some true := by
          have : ∀ (l m : List AV), eqInts l m = some true → eqInts m l = some true := by
            intro l
            induction l with
            | nil => intro m hm; cases m <;> simp [eqInts] at hm ⊢
            | cons x l ih =>
              intro m hm
              cases m with
              | nil => cases x <;> simp [eqInts] at hm
              | cons y m =>
                cases x <;> (try (simp [eqInts] at hm; done)) <;> cases y <;> (try (simp [eqInts] at hm; done))
                simp only [eqInts] at hm ⊢
                split at hm
                · rename_i hk; subst hk
                  cases h3 : eqInts l m with
                  | none => simp [h3] at hm
                  | some c =>
                    simp [h3] at hm
                    obtain ⟨e1, e2⟩ := hm
                    subst e2
                    simp [ih m h3, e1]
                · cases hm
          exact this _ _ he
        obtain ⟨g1, g2⟩ := sameBits_ints d hy hx hsym
        simp only [Instr.sameBits, List.size_toArray, Bool.and_eq_true, beq_iff_eq]
        refine ⟨by omega, ?_⟩
        rw [List.all_eq_true]
        rintro ⟨p, q⟩ hp
        exact g2 _ (by simpa using hp)
      · cases he
  exact key 9999
end
end Go.AM

namespace Go.AM
section
variable {P : Program} {w : World} {G : Snap} {L : Lk} {I : Inj} {h : Heap} {n : Nat}

theorem findKey_eqv {ag : EqK} {k : AV} : ∀ {es : List (AV × AV)} {i : Nat} {v : AV}, AM.findKey ag es k = some (some (i, v)) → ∃ k', es[i]? = some (k', v) ∧ AV.eqv ag k k' = some true
  | [], i, v, h => by simp [AM.findKey] at h
  | (k', v') :: es, i, v, h => by
    simp only [AM.findKey] at h
    cases he : AV.eqv ag k k' with
    | none => simp [he] at h
    | some b =>
      cases b with
      | true => simp [he] at h; obtain ⟨rfl, rfl⟩ := h; exact ⟨k', by simp, he⟩
      | false =>
        simp only [he] at h
        cases hf : AM.findKey ag es k with
        | none => simp [hf] at h
        | some r =>
          cases r with
          | none => simp [hf] at h
          | some p =>
            obtain ⟨i', v''⟩ := p
            simp [hf] at h
            obtain ⟨rfl, rfl⟩ := h
            obtain ⟨k'', h1, h2⟩ := findKey_eqv hf
            exact ⟨k'', by simpa using h1, h2⟩

theorem VRs_set {as : List AV} {vs : List Value} (hv : VRs G I as vs) {i : Nat} {a : AV} {c : Value} (ha : VR G I a c) : VRs G I (as.set i a) (vs.set i c) := by
  have hl := VRs_length hv
  refine VRs_of_get (by simp [hl]) fun j b hj => ?_
  rw [List.getElem?_set] at hj ⊢
  split at hj
  · rename_i e; subst e
    split at hj
    · rename_i hlt
      injection hj with hj; subst hj
      exact ⟨c, by rw [if_pos rfl, if_pos (by omega)], ha⟩
    · cases hj
  · rename_i e
    rw [if_neg e]
    exact VRs_get hv hj

theorem mupd_sound (hs : St G L I h w) {t kt e : TypeId} {ag : EqK} (hu : P.underlying t = some (.map kt e)) (hk : eqK P kt = some ag)
    {am ak av v : AV} {cm ck cv : Value} {u : Upd} (ham : VR G I am cm) (hak : VR G I ak ck) (hav : VR G I av cv)
    (hrun : (match (generalizing := false) am with
      | .mapr id => match h.at id with
        | some (.map es) => match AM.findKey ag es ak with
          | some (some (i, _)) => some (keyB ag ak && av.val, .tup [], [(id, some (.map (es.set i (((es.map (·.1)).getD i .undef), av))))])
          | some none => some (keyB ag ak && av.val, .tup [], [(id, some (.map (es ++ [(ak, av)])))])
          | none => none
        | _ => none
      | _ => (none : Res)) = some (true, v, u)) :
    Done P G L I h n (do Instr.mapUpdate t cm ck cv; Pure.pure Next.skip) w v u := by
  cases am <;> (try (simp at hrun; done))
  rename_i id
  simp only [VR] at ham
  obtain ⟨b, base, ext, hi, rfl⟩ := ham
  cases hat : h.at id with
  | none => simp [hat] at hrun
  | some bk =>
    cases bk with
    | cells cs => simp [hat] at hrun
    | map es =>
      simp only [hat] at hrun
      obtain ⟨o, g2, g3, g4, g5⟩ := hs.ownOf hi hat
      obtain ⟨mes, clock, rfl, g6, g7⟩ := g5
      have hlt : b < w.heap.size := (Array.getElem?_eq_some_iff.1 g4).1
      have hget : (getObj b).run P w = .ok (.map mes clock) w := by simp [getObj, Sem.run, g4]
      have hset : ∀ o', (setObj b o').run P w = .ok () { w with heap := w.heap.setIfInBounds b o' } := by intro o'; simp [setObj, Sem.run, g4]
      cases hf : AM.findKey ag es ak with
      | none => simp [hf] at hrun
      | some r =>
        obtain ⟨cr, f1, f2⟩ := findKey_sound (w := w) hk hak g6 g7 hf
        cases r with
        | none =>
          simp [hf] at hrun
          obtain ⟨⟨hkb, hval⟩, rfl, rfl⟩ := hrun
          subst f2
          have hck := checkKey_sound (w := w) hk false hak (keyB_OK hkb)
          refine ⟨.skip, undef, { w with heap := w.heap.setIfInBounds b (.map (mes.push { key := ck, val := cv, born := clock }) (clock + 1)) }, I, ?_, .inr ⟨rfl, rfl⟩, Inj.le_refl I, fun _ _ => rfl, fun _ => rfl, ?_, by simp [VR, VRs, undef]⟩
          · simp [Instr.mapUpdate, run_underlying hu, hget, hck, f1, hset]
          · refine hs.turn hi hat rfl ?_
            refine ⟨_, _, rfl, ?_, ?_⟩
            · simp only [List.map_append, List.map_cons, List.map_nil, Array.toList_push]
              exact VRs_append g6 (by simp only [VRs]; exact ⟨_, _, rfl, hak, rfl⟩)
            · simp only [List.map_append, List.map_cons, List.map_nil, Array.toList_push]
              exact VRs_append g7 (by simp only [VRs]; exact ⟨_, _, rfl, hav, rfl⟩)
        | some p =>
          obtain ⟨i, v'⟩ := p
          simp only [hf, Option.some.injEq, Prod.mk.injEq, Bool.and_eq_true] at hrun
          obtain ⟨⟨hkb, hval⟩, rfl, rfl⟩ := hrun
          obtain ⟨cv', rfl, f3, f4⟩ := f2
          have hck := checkKey_sound (w := w) hk false hak (keyB_OK hkb)
          obtain ⟨k', hk1, hk2⟩ := findKey_eqv hf
          have hk3 : (es.map (·.1))[i]? = some k' := by simp [hk1]
          obtain ⟨ck', hk4, hk5⟩ := VRs_get g6 hk3
          have hk6 : ∃ me, mes[i]? = some me ∧ me.key = ck' := by
            simp at hk4
            obtain ⟨me, hme, hme2⟩ := hk4
            exact ⟨me, hme, hme2⟩
          obtain ⟨me, hme, rfl⟩ := hk6
          have hsb := sameBits_sound hak hk5 hk2
          have hkeep : (Instr.keyThatStays (((mes[i]?).map (·.key)).getD ck) ck).run P w = .ok ck w := by
            simp [Instr.keyThatStays, hme, hsb]
          have hgd : (es.map (·.1)).getD i .undef = k' := by simp [List.getD, hk3]
          refine ⟨.skip, undef, { w with heap := w.heap.setIfInBounds b (.map (mes.modify i fun e => { e with key := ck, val := cv }) clock) }, I, ?_, .inr ⟨rfl, rfl⟩, Inj.le_refl I, fun _ _ => rfl, fun _ => rfl, ?_, by simp [VR, VRs, undef]⟩
          · simp only [Instr.mapUpdate, Sem.run_bind, run_underlying hu, hget, Result.andThen_ok, hck, f1, hkeep, hset, Sem.run_pure]
          · refine hs.turn hi hat rfl ?_
            rw [hgd]
            have hkeq : VR G I k' ck := by
              -- equal data
              cases ag with
              | b =>
                simp only [AV.eqv] at hk2
                cases ak <;> (try (simp at hk2; done)) <;> cases k' <;> (try (simp at hk2; done))
                simp at hk2; subst hk2; exact hak
              | i =>
                simp only [AV.eqv] at hk2
                cases ak <;> (try (simp at hk2; done)) <;> cases k' <;> (try (simp at hk2; done))
                simp at hk2; obtain ⟨rfl, rfl⟩ := hk2; exact hak
              | s =>
                simp only [AV.eqv] at hk2
                cases ak <;> (try (simp at hk2; done)) <;> cases k' <;> (try (simp at hk2; done))
                rename_i x y
                simp only [Option.some.injEq] at hk2
                rw [beq_toListBytes] at hk2
                simp only [beq_iff_eq] at hk2
                have : x = y := by
                  rw [ByteArray.toList_eq, ByteArray.toList_eq] at hk2
                  obtain ⟨⟨x⟩⟩ := x; obtain ⟨⟨y⟩⟩ := y
                  simp at hk2; rw [hk2]
                subst this; exact hak
              | g m =>
                simp only [AV.eqv] at hk2
                cases ak <;> (try (simp at hk2; done)) <;> cases k' <;> (try (simp at hk2; done))
                simp only at hk2
                split at hk2
                · rename_i as bs _
                  have : ∀ (l m : List AV), eqInts l m = some true → l = m := by
                    intro l
                    induction l with
                    | nil => intro m hm; cases m <;> simp [eqInts] at hm ⊢
                    | cons x l ih =>
                      intro m hm
                      cases m with
                      | nil => cases x <;> simp [eqInts] at hm
                      | cons y m =>
                        cases x <;> (try (simp [eqInts] at hm; done)) <;> cases y <;> (try (simp [eqInts] at hm; done))
                        simp only [eqInts] at hm
                        split at hm
                        · rename_i hkk; subst hkk
                          cases h3 : eqInts l m with
                          | none => simp [h3] at hm
                          | some c =>
                            simp [h3] at hm
                            obtain ⟨e1, e2⟩ := hm
                            subst e2; subst e1
                            rw [ih m h3]
                        · cases hm
                  have := this _ _ hk2
                  subst this; exact hak
                · cases hk2
            have hml : i < mes.size := (Array.getElem?_eq_some_iff.1 hme).1
            have hkm : (mes.modify i fun e => { e with key := ck, val := cv }).toList.map (·.key) = (mes.toList.map (·.key)).set i ck := by
              apply List.ext_getElem?
              intro j
              simp only [List.getElem?_map, Array.getElem?_toList, Array.getElem?_modify, List.getElem?_set, List.length_map, Array.length_toList]
              by_cases hj : i = j
              · subst hj; simp [hme, hml]
              · simp [hj]
            have hvm : (mes.modify i fun e => { e with key := ck, val := cv }).toList.map (·.val) = (mes.toList.map (·.val)).set i cv := by
              apply List.ext_getElem?
              intro j
              simp only [List.getElem?_map, Array.getElem?_toList, Array.getElem?_modify, List.getElem?_set, List.length_map, Array.length_toList]
              by_cases hj : i = j
              · subst hj; simp [hme, hml]
              · simp [hj]
            refine ⟨_, _, rfl, ?_, ?_⟩
            · rw [hkm, List.map_set]; exact VRs_set g6 hkeq
            · rw [hvm, List.map_set]; exact VRs_set g7 hav

theorem clr_sound (hs : St G L I h w) {t e : TypeId} {sz : Nat} {z : List AV} (ht : P.underlying t = some (.slice e)) (hsz : szP P e = some sz) (hz : zeroP P e = some z) (hzl : z.length = sz) (hs0 : 0 < sz)
    {a v : AV} {c : Value} {u : Upd} (ha : VR G I a c) (ty : TypeId)
    (hrun : (match (generalizing := false) a with
      | .nils => okv (.tup [])
      | .emp => okv (.tup [])
      | .slice id off ln sz' => if sz' = sz then
          match h.at id with
          | some (.cells cs) => if off + ln * sz ≤ cs.length ∧ z.length = sz then
              some (z.all AV.one, .tup [], [(id, some (.cells (overwrite cs off ((List.replicate ln z).flatten))))]) else none
          | _ => none
        else none
      | _ => (none : Res)) = some (true, v, u)) :
    Done P G L I h n (do let v ← Builtin.clear_ #[t] ty #[c]; Pure.pure (Next.value v)) w v u := by
  obtain ⟨i, zv, hi, hz0, hzv, hz1⟩ := zeroP_sound (G := G) (I := I) hz
  have hzs : zv.cells.size = sz := by have := VRs_length hzv; simp at this; omega
  cases a <;> (try (simp at hrun; done))
  case nils =>
    simp [okv] at hrun; obtain ⟨rfl, rfl⟩ := hrun
    simp only [VR] at ha; subst ha
    exact Done.pure hs (cv := .tuple #[]) (by simp [Builtin.clear_, run_underlying ht]) (by simp [VR, VRs])
  case emp =>
    simp [okv] at hrun; obtain ⟨rfl, rfl⟩ := hrun
    simp only [VR] at ha; obtain ⟨q, rfl⟩ := ha
    exact Done.pure hs (cv := .tuple #[]) (by cases q <;> simp [Builtin.clear_, run_underlying ht]) (by simp [VR, VRs])
  case slice id off ln sz' =>
    simp only at hrun
    split at hrun
    · rename_i hzz; subst hzz
      cases hat : h.at id with
      | none => simp [hat] at hrun
      | some bk =>
        cases bk with
        | map es => simp [hat] at hrun
        | cells cs =>
          simp only [hat] at hrun
          split at hrun
          · rename_i hc
            simp only [Option.some.injEq, Prod.mk.injEq] at hrun
            obtain ⟨_, rfl, rfl⟩ := hrun
            have hrl : ((List.replicate ln z).flatten).length = ln * sz' := by simp [hzl]
            simp only [VR] at ha
            rcases ha with ⟨rfl, q, rfl⟩ | ⟨b, base, ext, cap, hii, rfl, _, _⟩
            · have : overwrite cs off ((List.replicate 0 z).flatten) = cs := overwrite_nil cs off
              rw [this]
              refine ⟨.value (.tuple #[]), .tuple #[], w, I, by cases q <;> simp [Builtin.clear_, run_underlying ht], .inl rfl, Inj.le_refl I, fun _ _ => rfl, fun _ => rfl, ?_, by simp [VR, VRs]⟩
              show St G L I (h.set id _) w
              rw [Heap.set_same hat]; exact hs
            · obtain ⟨w', hr, hs'⟩ := store_cells (P := P) hs hii hat (VRs_replicate hzv ln) (all_replicate hz1 ln) (off := off) (by rw [hrl]; exact hc.1)
              refine ⟨.value (.tuple #[]), .tuple #[], w', I, ?_, .inl rfl, Inj.le_refl I, fun _ _ => rfl, fun _ => rfl, hs', by simp [VR, VRs]⟩
              have hzc : (Builtin.zeroCells zv.cells ln).toList = (List.replicate ln zv.cells.toList).flatten := range_zeros zv.cells ln (by omega)
              cases ln with
              | zero =>
                simp [storeCells] at hr; subst hr
                simp [Builtin.clear_, run_underlying ht]
              | succ ln =>
                rw [← hzc] at hr
                simp [Builtin.clear_, run_underlying ht, run_zeroValue hi hz0, hr]
          · cases hrun
    · cases hrun
end
end Go.AM

namespace Go.AM
section
variable {P : Program} {w : World} {G : Snap} {L : Lk} {I : Inj} {h : Heap} {n : Nat}

theorem Option.map_some_inv {α β : Type} {f : α → β} {o : Option α} {b : β} (h : o.map f = some b) : ∃ a, o = some a ∧ f a = b := by
  cases o with
  | none => cases h
  | some a => exact ⟨a, rfl, by simpa using h⟩

theorem cRes_of {s : Sem Value} {v : AV} {u : Upd} (hs : St G L I h w) (hx : u = [] ∧ ∃ cv, s.run P w = .ok cv w ∧ VR G I v cv) :
    Done P G L I h n (do let v ← s; Pure.pure (Next.value v)) w v u := by
  obtain ⟨rfl, cv, h1, h2⟩ := hx
  exact Done.pure hs (by simp [h1]) h2

set_option maxHeartbeats 1000000 in
/-- **Each operation.** -/
theorem op_sound (hs : St G L I h w) {env : List AV} {a : Act} (he : EnvR G I env a.tmps) {o : Oper} {r : ROp}
    (hc : cOp P o.op = some r) {v : AV} {u : Upd} (hrun : r.run env h n = some (true, v, u))
    (hnf : n ∈ u.map (·.1) → I n = none ∧ h.at n = none) : Done P G L I h n (execOp a.eval o) w v u := by
  unfold execOp
  cases ho : o.op with
  | move x =>
    rw [ho] at hc
    simp only [cOp] at hc
    obtain ⟨rx, h1, rfl⟩ := Option.map_some_inv hc
    simp only [ROp.run, okv, Option.some.injEq, Prod.mk.injEq] at hrun
    obtain ⟨_, rfl, rfl⟩ := hrun
    exact Done.pure hs (by simp) (ev_sound he h1)
  | assign x =>
    rw [ho] at hc
    simp only [cOp] at hc
    obtain ⟨rx, h1, rfl⟩ := Option.map_some_inv hc
    simp only [ROp.run, okv, Option.some.injEq, Prod.mk.injEq] at hrun
    obtain ⟨_, rfl, rfl⟩ := hrun
    exact Done.pure hs (by simp) (ev_sound he h1)
  | pick c x y =>
    rw [ho] at hc
    simp only [cOp] at hc
    split at hc <;> (try cases hc)
    rename_i rc rx ry h1 h2 h3
    have k1 := ev_sound he h1
    have k2 := ev_sound he h2
    have k3 := ev_sound he h3
    simp only [ROp.run] at hrun
    split at hrun <;> (try (simp only [reduceCtorEq] at hrun; done))
    rename_i t hct
    rw [hct] at k1
    have k1' := VR_bool k1
    have hr : (do Pure.pure (Next.value (if ← asBool (a.eval c) then a.eval x else a.eval y)) : Sem Next).run P w = .ok (.value (if t then a.eval x else a.eval y)) w := by
      simp [k1', asBool]
    split at hrun
    · rename_i p q hp hq
      simp [okv] at hrun
      obtain ⟨rfl, rfl⟩ := hrun
      rw [hp] at k2; rw [hq] at k3
      have := VR_bool k2
      have := VR_bool k3
      refine Done.pure hs hr ?_
      cases t <;> simp_all [VR]
    · simp [okv] at hrun
      obtain ⟨rfl, rfl⟩ := hrun
      refine Done.pure hs hr ?_
      cases t <;> simp_all
  | alloc e =>
    rw [ho] at hc
    simp only [cOp] at hc
    obtain ⟨z, h1, rfl⟩ := Option.map_some_inv hc
    simp only [ROp.run, Option.some.injEq, Prod.mk.injEq] at hrun
    obtain ⟨_, rfl, rfl⟩ := hrun
    obtain ⟨hn, hf⟩ := hnf (by simp)
    exact alloc_sound hs hn hf h1
  | box e x =>
    rw [ho] at hc
    simp only [cOp] at hc
    obtain ⟨rx, h1, rfl⟩ := Option.map_some_inv hc
    simp only [ROp.run, Option.some.injEq, Prod.mk.injEq] at hrun
    obtain ⟨hv, rfl, rfl⟩ := hrun
    obtain ⟨hn, hf⟩ := hnf (by simp)
    exact box_sound hs hn hf (ev_sound he h1) hv
  | build t ps =>
    rw [ho] at hc
    simp only [cOp] at hc
    split at hc <;> (try cases hc)
    · rename_i z fs hz hu
      split at hc <;> (try cases hc)
      rename_i hall
      obtain ⟨rps, h1, rfl⟩ := Option.map_some_inv hc
      simp only [ROp.run] at hrun
      split at hrun <;> (try (simp only [reduceCtorEq] at hrun; done))
      rename_i b cs hfa
      simp [oki] at hrun
      obtain ⟨rfl, rfl, rfl⟩ := hrun
      have hall' : (fs.toList.all fun f => (szP P f.type).isSome) = true := by
        cases hq : (fs.toList.all fun f => (szP P f.type).isSome) with
        | true => rfl
        | false => exact absurd (by rw [hq]; rfl) hall
      exact cRes_of hs ⟨rfl, build_struct_sound he hu hz hall' h1 hfa⟩
    · rename_i z m e hz hu
      split at hc <;> (try cases hc)
      rename_i s hsz
      obtain ⟨rps, h1, rfl⟩ := Option.map_some_inv hc
      simp only [ROp.run] at hrun
      split at hrun <;> (try (simp only [reduceCtorEq] at hrun; done))
      rename_i b cs hfa
      simp [oki] at hrun
      obtain ⟨rfl, rfl, rfl⟩ := hrun
      exact cRes_of hs ⟨rfl, build_array_sound he hu hz hsz h1 hfa⟩
  | buildSlice t len ps =>
    rw [ho] at hc
    simp only [cOp] at hc
    split at hc <;> (try cases hc)
    rename_i e hu
    split at hc <;> (try cases hc)
    rename_i s z rs hsz hz hps
    split at hc <;> (try cases hc)
    rename_i hcond
    simp only [ROp.run] at hrun
    split at hrun <;> (try (simp only [reduceCtorEq] at hrun; done))
    rename_i b cs hfa
    simp only [Option.some.injEq, Prod.mk.injEq, Bool.and_eq_true] at hrun
    obtain ⟨⟨rfl, _⟩, rfl, rfl⟩ := hrun
    obtain ⟨hn, hf⟩ := hnf (by simp)
    exact bslice_sound hs hn hf he hu hz hsz hcond.1 hcond.2.1 hcond.2.2 hps hfa
  | load t x =>
    rw [ho] at hc
    simp only [cOp] at hc
    split at hc <;> (try cases hc)
    rename_i ag rx hag h1
    have k1 := ev_sound he h1
    simp only [ROp.run] at hrun
    have hu : u = [] := by
      revert hrun
      cases rx.ev env <;> simp <;> (repeat' split) <;> simp [okv]
      all_goals (intro _ h; exact h.symm)
    subst hu
    exact cRes_of hs ⟨rfl, load_sound hs hag k1 hrun⟩
  | store t x y =>
    rw [ho] at hc
    simp only [cOp] at hc
    split at hc <;> (try cases hc)
    rename_i m rx ry hm h1 h2
    simp only [ROp.run] at hrun
    exact store_sound hs hm (ev_sound he h1) (ev_sound he h2) hrun
  | fieldAddr s x f =>
    rw [ho] at hc
    simp only [cOp] at hc
    split at hc <;> (try cases hc)
    rename_i fs rx hu h1
    split at hc <;> (try cases hc)
    rename_i fd hfd
    split at hc <;> (try cases hc)
    rename_i m hm
    split at hc <;> (try cases hc)
    rename_i hm0
    simp only [ROp.run] at hrun
    exact cRes_of hs (faddr_sound hu hfd hm hm0 (ev_sound he h1) hrun)
  | field t x f =>
    rw [ho] at hc
    simp only [cOp] at hc
    split at hc <;> (try cases hc)
    rename_i fs rx hu h1
    split at hc <;> (try cases hc)
    rename_i fd hfd
    split at hc <;> (try cases hc)
    rename_i ag hag
    simp only [ROp.run] at hrun
    exact cRes_of hs (field_sound hu hfd hag (ev_sound he h1) hrun)
  | indexAddr t x i =>
    rw [ho] at hc
    simp only [cOp] at hc
    split at hc <;> (try cases hc)
    · rename_i m e rx ri hu h1 h2
      obtain ⟨s, hsz, rfl⟩ := Option.map_some_inv hc
      simp only [ROp.run] at hrun
      exact cRes_of hs (iaA_sound hu hsz (ev_sound he h1) (ev_sound he h2) hrun)
    · rename_i e rx ri hu h1 h2
      obtain ⟨s, hsz, rfl⟩ := Option.map_some_inv hc
      simp only [ROp.run] at hrun
      exact cRes_of hs (iaS_sound hu hsz (ev_sound he h1) (ev_sound he h2) hrun)
  | index t x i =>
    rw [ho] at hc
    simp only [cOp] at hc
    split at hc <;> (try cases hc)
    · rename_i m e rx ri hu h1 h2
      split at hc <;> (try cases hc)
      rename_i s ag hsz hag
      simp only [ROp.run] at hrun
      exact cRes_of hs (ixA_sound hu hsz hag (ev_sound he h1) (ev_sound he h2) hrun)
    · rename_i rx ri hu h1 h2
      simp only [ROp.run] at hrun
      exact cRes_of hs (ixS_sound hu (ev_sound he h1) (ev_sound he h2) hrun)
  | binOp op t x y yt =>
    rw [ho] at hc
    have other : ∀ (rx ry : RO), cRO x = some rx → cRO y = some ry → r = .bin op rx ry → op ≠ .eql ∧ op ≠ .neq →
        Done P G L I h n (do let v ← (do eqGuard op t x y (a.eval x) (a.eval y); Go.binOp op t (a.eval x) (a.eval y)); Pure.pure (Next.value v)) w v u := by
      intro rx ry h1 h2 hr hop
      subst hr
      simp only [ROp.run] at hrun
      exact cRes_of hs (bin_sound (ev_sound he h1) (ev_sound he h2) hop x y hrun)
    have eqs : ∀ (neg : Bool), op = (if neg then .neq else .eql) → cEq P neg t x y = some r →
        Done P G L I h n (do let v ← (do eqGuard op t x y (a.eval x) (a.eval y); Go.binOp op t (a.eval x) (a.eval y)); Pure.pure (Next.value v)) w v u := by
      intro neg hop hq
      subst hop
      simp only [cEq] at hq
      split at hq
      · rename_i k hk
        split at hq <;> (try (simp only [reduceCtorEq] at hq; done))
        rename_i rx h1
        split at hq <;> (try (simp only [reduceCtorEq] at hq; done))
        rename_i hk2
        injection hq with hq; subst hq
        exact cRes_of hs (isnil_sound hk2 hk (ev_sound he h1) (fun c => rfl) rfl hrun)
      · split at hq <;> (try (simp only [reduceCtorEq] at hq; done))
        rename_i k rx ry hk h1 h2
        injection hq with hq; subst hq
        simp only [ROp.run] at hrun
        split at hrun <;> (try (simp only [reduceCtorEq] at hrun; done))
        rename_i b hb
        simp only [okv, Option.some.injEq, Prod.mk.injEq] at hrun
        obtain ⟨_, rfl, rfl⟩ := hrun
        exact cRes_of hs ⟨rfl, _, eq_sound hk (ev_sound he h1) (ev_sound he h2) hb x y, VRbool⟩
    cases op
    case eql => exact eqs false rfl hc
    case neq => exact eqs true rfl hc
    all_goals
      simp only [cOp] at hc
      split at hc <;> (try (simp only [reduceCtorEq] at hc; done))
      rename_i rx ry h1 h2
      injection hc with hc
      exact other rx ry h1 h2 hc.symm ⟨by simp, by simp⟩
  | unOp op t x =>
    rw [ho] at hc
    simp only [cOp] at hc
    obtain ⟨rx, h1, rfl⟩ := Option.map_some_inv hc
    simp only [ROp.run] at hrun
    exact cRes_of hs (un_sound (ev_sound he h1) hrun)
  | convert s d x =>
    rw [ho] at hc
    simp only [cOp] at hc
    split at hc <;> (try cases hc)
    rename_i e k rx hsu hdu h1
    simp only [ROp.run] at hrun
    exact cRes_of hs (conv_sound hsu hdu (ev_sound he h1) hrun)
  | slice t x lo hi mx =>
    rw [ho] at hc
    simp only [cOp] at hc
    split at hc <;> (try (simp only [reduceCtorEq] at hc; done))
    rename_i rx rlo rhi rmx h1 h2 h3 h4
    split at hc <;> (try (simp only [reduceCtorEq] at hc; done))
    · rename_i e hu
      split at hc <;> (try (simp only [reduceCtorEq] at hc; done))
      rename_i s hsz
      injection hc with hc; subst hc
      have hm : mx = none := by have := isNone_ROo h4; cases mx <;> simp_all
      subst hm
      exact cRes_of hs (slc_sound he hu hsz h2 h3 h1 hrun)
    · rename_i hu
      split at hc <;> (try (simp only [reduceCtorEq] at hc; done))
      injection hc with hc; subst hc
      have hm : mx = none := by have := isNone_ROo h4; cases mx <;> simp_all
      subst hm
      exact cRes_of hs (slcS_sound he hu h2 h3 h1 hrun)
    · rename_i m e hu
      split at hc <;> (try (simp only [reduceCtorEq] at hc; done))
      rename_i s hsz
      injection hc with hc; subst hc
      have hm : mx = none := by have := isNone_ROo h4; cases mx <;> simp_all
      have hm2 : lo = none := by have := isNone_ROo h2; cases lo <;> simp_all
      have hm3 : hi = none := by have := isNone_ROo h3; cases hi <;> simp_all
      subst hm; subst hm2; subst hm3
      exact cRes_of hs (slcA_sound hs he hu hsz h1 hrun)
  | nilCheck x =>
    rw [ho] at hc
    simp only [cOp] at hc
    obtain ⟨rx, h1, rfl⟩ := Option.map_some_inv hc
    simp only [ROp.run] at hrun
    obtain ⟨rfl, rfl, hx⟩ := nilck_sound (P := P) (w := w) (ev_sound he h1) hrun
    have := hx o x a.eval ho rfl
    unfold execOp at this
    rw [ho] at this
    exact Done.pure hs this (ev_sound he h1)
  | extract x i =>
    rw [ho] at hc
    simp only [cOp] at hc
    obtain ⟨rx, h1, rfl⟩ := Option.map_some_inv hc
    simp only [ROp.run] at hrun
    exact cRes_of hs (ext_sound (ev_sound he h1) hrun)
  | makeFunc fn first caps =>
    rw [ho] at hc
    cases fn <;> simp only [cOp] at hc <;> (try (simp only [reduceCtorEq] at hc; done))
    rename_i f
    split at hc <;> (try (simp only [reduceCtorEq] at hc; done))
    rename_i hfs
    obtain ⟨rs, h1, rfl⟩ := Option.map_some_inv hc
    simp only [ROp.run, okv, Option.some.injEq, Prod.mk.injEq] at hrun
    obtain ⟨_, rfl, rfl⟩ := hrun
    have hfirst : first = #[] := Array.eq_empty_of_size_eq_zero hfs
    subst hfirst
    refine Done.pure hs (cv := .func (.func f) #[] (caps.map a.eval)) (by simp [Instr.makeFunc]) ?_
    simp only [VR]
    exact ⟨caps.toList.map a.eval, by congr 1; apply Array.ext'; simp, cROs_sound he h1⟩
  | makeSlice t l c =>
    rw [ho] at hc
    simp only [cOp] at hc
    split at hc <;> (try (simp only [reduceCtorEq] at hc; done))
    rename_i e rl rc hu h1 h2
    split at hc <;> (try (simp only [reduceCtorEq] at hc; done))
    rename_i s b z hsz hby hz
    split at hc <;> (try (simp only [reduceCtorEq] at hc; done))
    rename_i hcond
    injection hc with hc; subst hc
    simp only [ROp.run] at hrun
    have hmem : n ∈ u.map (·.1) := by
      clear hnf
      revert hrun
      (repeat' split) <;> simp only [Option.some.injEq, Prod.mk.injEq, reduceCtorEq, false_implies] <;> (rintro ⟨_, _, rfl⟩; simp)
    obtain ⟨hn, hf⟩ := hnf hmem
    exact mkslice_sound hs hn hf hu hsz hby hz hcond.1 hcond.2.1 hcond.2.2 (ev_sound he h1) (ev_sound he h2) hrun
  | makeMap t res =>
    rw [ho] at hc
    cases res with
    | some x => simp only [cOp, reduceCtorEq] at hc
    | none =>
      simp only [cOp] at hc
      injection hc with hc; subst hc
      simp only [ROp.run, Option.some.injEq, Prod.mk.injEq] at hrun
      obtain ⟨_, rfl, rfl⟩ := hrun
      obtain ⟨hn, hf⟩ := hnf (by simp)
      exact mkmap_sound hs hn hf
  | lookup t m k ok =>
    rw [ho] at hc
    simp only [cOp] at hc
    split at hc <;> (try (simp only [reduceCtorEq] at hc; done))
    rename_i kt e rm rk hu h1 h2
    split at hc <;> (try (simp only [reduceCtorEq] at hc; done))
    rename_i z hz
    obtain ⟨ag, hk, rfl⟩ := Option.map_some_inv hc
    simp only [ROp.run] at hrun
    exact cRes_of hs (look_sound hs hu hz hk (ev_sound he h1) (ev_sound he h2) hrun)
  | mapUpdate t m k x =>
    rw [ho] at hc
    simp only [cOp] at hc
    split at hc <;> (try (simp only [reduceCtorEq] at hc; done))
    rename_i kt e rm rk rv hu h1 h2 h3
    obtain ⟨ag, hk, rfl⟩ := Option.map_some_inv hc
    simp only [ROp.run] at hrun
    exact mupd_sound hs hu hk (ev_sound he h1) (ev_sound he h2) (ev_sound he h3) hrun
  | makeInterface t x =>
    rw [ho] at hc
    simp only [cOp] at hc
    split at hc <;> (try (simp only [reduceCtorEq] at hc; done))
    rename_i d rx hnot hu h1
    injection hc with hc; subst hc
    simp only [ROp.run, okv, Option.some.injEq, Prod.mk.injEq] at hrun
    obtain ⟨_, rfl, rfl⟩ := hrun
    exact cRes_of hs ⟨rfl, mkif_sound hu (fun ms hd => hnot ms hd) (ev_sound he h1)⟩
  | typeAssert x xt t ok =>
    rw [ho] at hc
    simp only [cOp] at hc
    split at hc <;> (try (simp only [reduceCtorEq] at hc; done))
    rename_i d rx hnot hu h1
    obtain ⟨z, hz, rfl⟩ := Option.map_some_inv hc
    simp only [ROp.run] at hrun
    exact cRes_of hs (tassert_sound hu (fun ms hd => hnot ms hd) hz (ev_sound he h1) hrun)
  | call c =>
    rw [ho] at hc
    have arr1 : ∀ {α : Type} {xs : Array α} {x : α}, xs.toList = [x] → xs = #[x] := fun h => Array.ext' (by simpa using h)
    have arr2 : ∀ {α : Type} {xs : Array α} {x y : α}, xs.toList = [x, y] → xs = #[x, y] := fun h => Array.ext' (by simpa using h)
    obtain ⟨callee, args, argTypes⟩ := c
    cases callee with
    | value f =>
      simp only [cOp] at hc
      split at hc <;> (try (simp only [reduceCtorEq] at hc; done))
      injection hc with hc; subst hc
      simp [ROp.run] at hrun
    | invoke rcv m => simp only [cOp, reduceCtorEq] at hc
    | builtin b =>
      cases b <;> simp only [cOp] at hc <;> (try (simp only [reduceCtorEq] at hc; done))
      case len =>
        split at hc <;> (try (simp only [reduceCtorEq] at hc; done))
        rename_i x t hx ht
        have := arr1 hx; subst this
        have := arr1 ht; subst this
        split at hc <;> (try (simp only [reduceCtorEq] at hc; done))
        · rename_i rx hu h1
          injection hc with hc; subst hc
          simp only [ROp.run] at hrun
          have := cRes_of (n := n) hs (len_sound hs (kk := 0) hu (.inl ⟨rfl, rfl⟩) (ev_sound he h1) o.type hrun)
          simpa [resolve, invoke, builtin] using this
        · rename_i e rx hu h1
          injection hc with hc; subst hc
          simp only [ROp.run] at hrun
          have := cRes_of (n := n) hs (len_sound hs (kk := 1) hu (.inr (.inl ⟨rfl, e, rfl⟩)) (ev_sound he h1) o.type hrun)
          simpa [resolve, invoke, builtin] using this
        · rename_i k e rx hu h1
          injection hc with hc; subst hc
          simp only [ROp.run] at hrun
          have := cRes_of (n := n) hs (len_sound hs (kk := 2) hu (.inr (.inr ⟨rfl, k, e, rfl⟩)) (ev_sound he h1) o.type hrun)
          simpa [resolve, invoke, builtin] using this
        · rename_i m e rx hu h1
          injection hc with hc; subst hc
          simp only [ROp.run, okv, Option.some.injEq, Prod.mk.injEq] at hrun
          obtain ⟨_, rfl, rfl⟩ := hrun
          refine Done.pure hs (cv := .int .i64 m) ?_ (by simp [RO.ev, VR])
          simp [resolve, invoke, builtin, Builtin.len_, run_underlying hu, goInt]
      case append =>
        split at hc <;> (try (simp only [reduceCtorEq] at hc; done))
        rename_i s x t t2 hx ht
        have := arr2 hx; subst this
        have := arr2 ht; subst this
        split at hc <;> (try (simp only [reduceCtorEq] at hc; done))
        rename_i e e2 rs rx hu hu2 h1 h2
        split at hc <;> (try (simp only [reduceCtorEq] at hc; done))
        rename_i sz by_ z hsz hby hz
        split at hc <;> (try (simp only [reduceCtorEq] at hc; done))
        rename_i hcond
        injection hc with hc; subst hc
        simp only [ROp.run] at hrun
        have := app_sound hs hu hu2 hsz hby hz hcond.1 hcond.2.1 hcond.2.2 (ev_sound he h1) (ev_sound he h2) o.type hnf hrun
        simpa [resolve, invoke, builtin] using this
      case clear =>
        split at hc <;> (try (simp only [reduceCtorEq] at hc; done))
        rename_i x t hx ht
        have := arr1 hx; subst this
        have := arr1 ht; subst this
        split at hc <;> (try (simp only [reduceCtorEq] at hc; done))
        rename_i e rx hu h1
        split at hc <;> (try (simp only [reduceCtorEq] at hc; done))
        rename_i sz z hsz hz
        split at hc <;> (try (simp only [reduceCtorEq] at hc; done))
        rename_i hcond
        injection hc with hc; subst hc
        simp only [ROp.run] at hrun
        have := clr_sound (n := n) hs hu hsz hz hcond.1 hcond.2 (ev_sound he h1) o.type hrun
        simpa [resolve, invoke, builtin] using this
      case min =>
        split at hc <;> (try (simp only [reduceCtorEq] at hc; done))
        rename_i x y hx
        have := arr2 hx; subst this
        split at hc <;> (try (simp only [reduceCtorEq] at hc; done))
        rename_i rx ry h1 h2
        injection hc with hc; subst hc
        simp only [ROp.run] at hrun
        have := cRes_of (n := n) hs (mm_sound (P := P) (w := w) (mx := false) (ev_sound he h1) (ev_sound he h2) argTypes o.type hrun)
        simpa [resolve, invoke, builtin] using this
      case max =>
        split at hc <;> (try (simp only [reduceCtorEq] at hc; done))
        rename_i x y hx
        have := arr2 hx; subst this
        split at hc <;> (try (simp only [reduceCtorEq] at hc; done))
        rename_i rx ry h1 h2
        injection hc with hc; subst hc
        simp only [ROp.run] at hrun
        have := cRes_of (n := n) hs (mm_sound (P := P) (w := w) (mx := true) (ev_sound he h1) (ev_sound he h2) argTypes o.type hrun)
        simpa [resolve, invoke, builtin] using this
  | panic x =>
    rw [ho] at hc
    simp only [cOp] at hc
    obtain ⟨rx, h1, rfl⟩ := Option.map_some_inv hc
    simp [ROp.run] at hrun
  | _ =>
    rw [ho] at hc
    simp only [cOp, reduceCtorEq] at hc
end
end Go.AM
