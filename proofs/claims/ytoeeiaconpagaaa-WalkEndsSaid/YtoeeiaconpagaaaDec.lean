import Derived.Test.YtoeeiaconpagaaaData
set_option linter.unusedVariables false
set_option linter.unusedSimpArgs false
namespace Go.AM

/-! What came in, as the program's data. -/
def u16T : Ty := .int .u16
def portT : Ty := .struct [u16T, u16T]
def linkT : Ty := .array 2 portT
def topoT : Ty := .struct [.slice u16T, .slice linkT, .slice portT]
def packetT : Ty := .array 8 u16T

theorem list_dec {α : Type} {f : α → AV} : ∀ {es : List AV}, (∀ x ∈ es, ∃ a, x = f a) → ∃ l : List α, es = l.map f
  | [], _ => ⟨[], rfl⟩
  | e :: es, h => by
    obtain ⟨a, rfl⟩ := h e (by simp)
    obtain ⟨l, rfl⟩ := list_dec (es := es) fun x hx => h x (by simp [hx])
    exact ⟨a :: l, rfl⟩
theorem dec_u16 {cs : List AV} (h : u16T.has cs) : ∃ x, cs = [eU x] := by
  simp only [u16T, Ty.has] at h
  obtain ⟨n, rfl, hw⟩ := h
  have : 0 ≤ n ∧ n < 65536 := by
    simp [Lit.wf, IntKind.min, IntKind.max, IntKind.signed, IntKind.bits] at hw
    omega
  refine ⟨UInt16.ofNat n.toNat, ?_⟩
  unfold eU
  rw [UInt16.toNat_ofNat', Nat.mod_eq_of_lt (by omega)]
  congr 2; omega
theorem dec_port {cs : List AV} (h : portT.has cs) : ∃ p, cs = cPort p := by
  simp only [portT, Ty.has, hasL] at h
  obtain ⟨a, b, rfl, h1, a2, b2, rfl, h2, rfl⟩ := h
  obtain ⟨x, rfl⟩ := dec_u16 h1
  obtain ⟨y, rfl⟩ := dec_u16 h2
  exact ⟨⟨x, y⟩, rfl⟩
theorem dec_link {cs : List AV} (h : linkT.has cs) : ∃ p, cs = cLink p := by
  simp only [linkT, Ty.has] at h
  obtain ⟨parts, hl, rfl, hp⟩ := h
  match parts, hl with
  | [a, b], _ =>
    obtain ⟨p, rfl⟩ := dec_port (hp a (by simp))
    obtain ⟨q, rfl⟩ := dec_port (hp b (by simp))
    exact ⟨(p, q), by simp [cLink, cPort]⟩
theorem dec_slice {α : Type} {f : α → AV} {e : Ty} (hf : ∀ x, (e.isAgg = true → ∃ cs, x = .agg cs) → (e.isAgg = false → x.one = true) → e.has x.cells → ∃ a, x = f a) {cs : List AV} (h : (Ty.slice e).has cs) : ∃ l : List α, cs = [.lit e.size (l.map f)] ∧ l.length ≤ maxLen := by
  simp only [Ty.has] at h
  obtain ⟨es, rfl, hl, h⟩ := h
  obtain ⟨l, rfl⟩ := list_dec (f := f) fun x hx => hf x (h x hx).1 (h x hx).2.1 (h x hx).2.2
  exact ⟨l, rfl, by simpa using hl⟩
theorem dec_u16s {cs : List AV} (h : (Ty.slice u16T).has cs) : ∃ l : List UInt16, cs = [.lit 1 (l.map eU)] ∧ l.length ≤ maxLen := by
  refine dec_slice (e := u16T) (fun x _ h1 h2 => ?_) h
  obtain ⟨a, ha⟩ := dec_u16 h2
  refine ⟨a, ?_⟩
  have h1 := h1 rfl
  cases x <;> simp only [AV.one, Bool.false_eq_true] at h1 <;> simpa [AV.cells] using ha
theorem dec_ports {cs : List AV} (h : (Ty.slice portT).has cs) : ∃ l : List Port, cs = [.lit 2 (l.map ePort)] ∧ l.length ≤ maxLen := by
  refine dec_slice (e := portT) (fun x h1 _ h2 => ?_) h
  obtain ⟨c, rfl⟩ := h1 rfl
  obtain ⟨a, ha⟩ := dec_port h2
  exact ⟨a, by rw [show c = _ from ha]; rfl⟩
theorem dec_links {cs : List AV} (h : (Ty.slice linkT).has cs) : ∃ l : List (Port × Port), cs = [.lit 4 (l.map eLink)] ∧ l.length ≤ maxLen := by
  refine dec_slice (e := linkT) (fun x h1 _ h2 => ?_) h
  obtain ⟨c, rfl⟩ := h1 rfl
  obtain ⟨a, ha⟩ := dec_link h2
  exact ⟨a, by rw [show c = _ from ha]; rfl⟩
theorem dec_topo {a : AV} (h : topoT.val a) : ∃ t : Topo, a = eTopo t ∧ t.fits := by
  obtain ⟨h1, h2, _⟩ := h
  obtain ⟨c, rfl⟩ := h2 rfl
  have h1 : topoT.has c := h1
  simp only [topoT, Ty.has, hasL] at h1
  obtain ⟨a1, b1, rfl, g1, a2, b2, rfl, g2, a3, b3, rfl, g3, rfl⟩ := h1
  obtain ⟨s, rfl, hs⟩ := dec_u16s (by simpa only [Ty.has] using g1)
  obtain ⟨l, rfl, hl⟩ := dec_links (by simpa only [Ty.has] using g2)
  obtain ⟨p, rfl, hp⟩ := dec_ports (by simpa only [Ty.has] using g3)
  exact ⟨⟨s, l, p⟩, rfl, ⟨hs, hl, hp⟩⟩
theorem parts_u16 : ∀ {parts : List (List AV)}, (∀ p ∈ parts, u16T.has p) → ∃ l : List UInt16, l.length = parts.length ∧ parts.flatten = l.map eU
  | [], _ => ⟨[], rfl, rfl⟩
  | p :: ps, h => by
    obtain ⟨x, rfl⟩ := dec_u16 (h p (by simp))
    obtain ⟨l, h1, h2⟩ := parts_u16 (parts := ps) fun q hq => h q (by simp [hq])
    exact ⟨x :: l, by simp [h1], by simp [h2]⟩
theorem dec_packet {a : AV} (h : packetT.val a) : ∃ q : Pk, a = ePk q := by
  obtain ⟨h1, h2, _⟩ := h
  obtain ⟨c, rfl⟩ := h2 rfl
  have h1 : packetT.has c := h1
  simp only [packetT, Ty.has] at h1
  obtain ⟨parts, hl, rfl, hp⟩ := h1
  obtain ⟨l, g1, g2⟩ := parts_u16 hp
  refine ⟨⟨l.toArray, by simp [g1, hl]⟩, ?_⟩
  rw [g2]; simp [ePk, cPk]
end Go.AM
