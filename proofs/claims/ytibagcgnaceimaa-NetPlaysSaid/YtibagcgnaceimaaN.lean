/- Slices of datagrams, of steps, that came in: opened. -/
import Derived.Test.YtibagcgnaceimaaV
import Derived.Lib.SmallJoins
import Derived.Deep.Slices
import Derived.Deep.Strs
import Derived.SizedLaws
namespace Go.Proofs.Ytibagcgnaceimaa
open Go.ChangeShapes Go.WideShapes Go.ChangeAt Go.RowKit Go.Joins Go.Deep
set_option linter.unusedVariables false

/-- Its numbers fit their kinds, its bytes a process. -/
structure Dg.Ok (d : Dg) : Prop where
  fr : -9223372036854775808 ≤ d.fr ∧ d.fr ≤ 9223372036854775807
  to : -9223372036854775808 ≤ d.to ∧ d.to ≤ 9223372036854775807
  bs : d.bs.length ≤ 140737488351232

/-- A datagram in three cells. -/
def DgIn (w : World) (b o : Nat) (d : Dg) : Prop :=
  w.cell? ⟨b, o, none⟩ = some (.int .i64 d.fr) ∧ w.cell? ⟨b, o + 1, none⟩ = some (.int .i64 d.to) ∧ ∃ bo bc, w.cell? ⟨b, o + 2, none⟩ = some (.slice bo d.bs.length bc) ∧ SrcAt w bo d.bs.length bc (u8s d.bs)

def DgsAt (w : World) (a : Option Addr) (len : Nat) (Z : Nat → Dg) : Prop :=
  0 < len → ∃ b off, a = some ⟨b, off, none⟩ ∧ ∀ i, i < len → DgIn w b (off + i * 3) (Z i)

structure StepV where
  what : Int
  k : Int
  d : Dg

structure StepV.Ok (v : StepV) : Prop where
  what : -9223372036854775808 ≤ v.what ∧ v.what ≤ 9223372036854775807
  k : -9223372036854775808 ≤ v.k ∧ v.k ≤ 9223372036854775807
  d : v.d.Ok

def StepsAt (w : World) (a : Option Addr) (len : Nat) (Z : Nat → StepV) : Prop :=
  0 < len → ∃ b off, a = some ⟨b, off, none⟩ ∧ ∀ i, i < len →
    w.cell? ⟨b, off + i * 5, none⟩ = some (.int .i64 (Z i).what) ∧ w.cell? ⟨b, off + i * 5 + 1, none⟩ = some (.int .i64 (Z i).k) ∧ DgIn w b (off + i * 5 + 2) (Z i).d

theorem DgIn.below {w w' : World} {b o : Nat} {d : Dg} (h : DgIn w b o d) (hb : Below w.heap.size w w') : DgIn w' b o d :=
  let ⟨h0, h1, bo, bc, h2, h3⟩ := h
  ⟨below_cell hb h0, below_cell hb h1, bo, bc, below_cell hb h2, h3.below hb⟩
theorem DgsAt.below {w w' : World} {a : Option Addr} {len : Nat} {Z : Nat → Dg} (h : DgsAt w a len Z) (hb : Below w.heap.size w w') : DgsAt w' a len Z := fun h0 =>
  let ⟨b, off, ha, hi⟩ := h h0
  ⟨b, off, ha, fun i hl => (hi i hl).below hb⟩

theorem cells31 : Try.prog.cellsOf 31 = 3 := by kernel_rfl
theorem cells47 : Try.prog.cellsOf 47 = 5 := by kernel_rfl
theorem cells3 : Try.prog.cellsOf 3 = 1 := by kernel_rfl
theorem cells29 : Try.prog.cellsOf 29 = 1 := by kernel_rfl
theorem bytes5 : Try.prog.bytesOf 5 = 1 := by kernel_rfl

section
variable {H : Type} {enc : TypeId × Value → H} {w : World}

theorem read_bytes {base : Nat} {held : Bool} {n : Nat} {cs : List Value} {x : DataW H × List MemPlace} (h : DataW.trod enc Try.prog w base (fun _ => true) held n 29 cs = some x) (hw : ∀ m ∈ x.1.weights Try.prog 29, m ≤ reachBytes) :
    ∃ bo bc bs, cs = [.slice bo bs.length bc] ∧ SrcAt w bo bs.length bc (u8s bs) ∧ bs.length ≤ 140737488351232 := by
  rcases open_ints Try.underlying29 Try.underlying5 (by kernel_rfl) h with ⟨rfl, _⟩ | ⟨a, len, cap, zs, rfl, _, hl, hm, hz, rfl, hcell, _⟩
  · exact ⟨none, 0, [], rfl, .inl ⟨rfl, rfl, rfl⟩, by simp⟩
  · simp only [if_true] at hz
    have hlen : (zs.take len).length = len := by rw [List.length_take]; omega
    have hs : SrcAt w (some a) len cap (u8s (zs.take len)) := .inr ⟨a, rfl, fun j u hu => by
      simp only [u8s, List.getElem?_map, List.getElem?_take, Option.map_eq_some_iff] at hu
      obtain ⟨z, hz', rfl⟩ := hu
      split at hz'
      · rw [hcell j (by omega)]
        simp [List.getD_eq_getElem?_getD, hz']
      · cases hz'⟩
    refine ⟨some a, cap, zs.take len, by rw [hlen], by rw [hlen]; exact hs, ?_⟩
    have := hw ((lits (H := H) .u8 (zs.take len)).length + (lits (H := H) .u8 (zs.drop len)).length) (by simp [DataW.weights, Try.underlying29, bytes5, lits])
    simp only [lits, List.length_map, List.length_take, List.length_drop, reachBytes] at this
    omega

theorem read_dg {base : Nat} {held : Bool} {n : Nat} {cs : List Value} {x : DataW H × List MemPlace} (h : DataW.trod enc Try.prog w base (fun _ => true) held n 31 cs = some x) (hw : ∀ m ∈ x.1.weights Try.prog 31, m ≤ reachBytes) :
    ∃ (d : Dg) (bo : Option Addr) (bc : Nat), cs = [.int .i64 d.fr, .int .i64 d.to, .slice bo d.bs.length bc] ∧ SrcAt w bo d.bs.length bc (u8s d.bs) ∧ d.Ok := by
  obtain ⟨y0, y1, y2, k, rfl, hl, h0, h1, h2⟩ := trod_struct3 Try.underlying31 h
  rw [cells31] at hl
  match cs, hl with
  | [c0, c1, c2], _ =>
    simp only [cells3, cells29, List.drop, List.take] at h0 h1 h2
    obtain ⟨n0, e0, _, w0⟩ := DataW.trod_int Try.underlying3 h0
    obtain ⟨n1, e1, _, w1⟩ := DataW.trod_int Try.underlying3 h1
    obtain ⟨bo, bc, bs, e2, hs, hb⟩ := read_bytes h2 (fun m hm => hw m (by
      simp only [DataW.weights, Try.underlying31, List.map_cons, List.map_nil, DataW.weightsEach, List.mem_append]
      exact .inr (.inr (.inl hm))))
    simp only [List.cons.injEq, and_true] at e0 e1 e2
    subst e0 e1 e2
    exact ⟨⟨n0, n1, bs⟩, bo, bc, rfl, hs, ⟨bounds_i64 w0, bounds_i64 w1, hb⟩⟩

theorem read_step {base : Nat} {held : Bool} {n : Nat} {cs : List Value} {x : DataW H × List MemPlace} (h : DataW.trod enc Try.prog w base (fun _ => true) held n 47 cs = some x) (hw : ∀ m ∈ x.1.weights Try.prog 47, m ≤ reachBytes) :
    ∃ (v : StepV) (bo : Option Addr) (bc : Nat), cs = [.int .i64 v.what, .int .i64 v.k, .int .i64 v.d.fr, .int .i64 v.d.to, .slice bo v.d.bs.length bc] ∧ SrcAt w bo v.d.bs.length bc (u8s v.d.bs) ∧ v.Ok := by
  obtain ⟨y0, y1, y2, k, rfl, hl, h0, h1, h2⟩ := trod_struct3 Try.underlying47 h
  rw [cells47] at hl
  match cs, hl with
  | [c0, c1, c2, c3, c4], _ =>
    simp only [cells3, cells31, List.drop, List.take] at h0 h1 h2
    obtain ⟨n0, e0, _, w0⟩ := DataW.trod_int Try.underlying3 h0
    obtain ⟨n1, e1, _, w1⟩ := DataW.trod_int Try.underlying3 h1
    obtain ⟨d, bo, bc, e2, hs, hb⟩ := read_dg h2 (fun m hm => hw m (by
      simp only [DataW.weights, Try.underlying47, List.map_cons, List.map_nil, DataW.weightsEach, List.mem_append]
      exact .inr (.inr (.inl hm))))
    simp only [List.cons.injEq, and_true] at e0 e1 e2
    obtain ⟨rfl, rfl, rfl⟩ := e2
    subst e0 e1
    exact ⟨⟨n0, n1, d⟩, bo, bc, rfl, hs, ⟨bounds_i64 w0, bounds_i64 w1, hb⟩⟩

theorem weights_all {P : Program} {e : TypeId} : ∀ {ds : List (DataW H)} {i : Nat} {d : DataW H}, ds[i]? = some d → ∀ m ∈ d.weights P e, m ∈ DataW.weightsAll P e ds
  | [], _, _, h => by simp at h
  | x :: r, 0, d, h => fun m hm => by
    simp only [List.getElem?_cons_zero, Option.some.injEq] at h
    subst h
    simp only [DataW.weightsAll, List.mem_append]
    exact .inl hm
  | x :: r, i + 1, d, h => fun m hm => by
    simp only [List.getElem?_cons_succ] at h
    simp only [DataW.weightsAll, List.mem_append]
    exact .inr (weights_all h m hm)
end

theorem weights_elem {H : Type} {P : Program} {t e : TypeId} (ht : P.underlying t = some (.slice e)) (D : Nat → DataW H) (len m i : Nat) (hi : i < len) : ∀ k ∈ (D i).weights P e, k ∈ (DataW.slice ((List.range len).map D) ((List.range (m - len)).map fun j => D (len + j))).weights P t := by
  intro k hk
  simp only [DataW.weights, ht, List.mem_cons, List.mem_append]
  exact .inr (.inl (weights_all (i := i) (by simp [hi]) k hk))

theorem open_row22 {H : Type} {enc : TypeId × Value → H} {W : World} {d : DataW H} {p : List MemPlace} (a : Option Addr) (len cap : Nat) (h : DataW.Trod enc Try.prog W 0 (fun _ => true) true 22 (.slice a len cap) d p) (hw : ∀ m ∈ d.weights Try.prog 22, m ≤ reachBytes) :
    ∃ Z : Nat → Dg, DgsAt W a len Z ∧ (∀ i, i < len → (Z i).Ok) ∧ len ≤ cap ∧ cap ≤ maxLen := by
  obtain ⟨fuel, hf⟩ := h
  rcases open_slice Try.underlying22 hf with ⟨hcs, _⟩ | ⟨x, l, c, m, n, D, Pl, hcs, _, hl, hm, hmm, hx, hel⟩
  · simp [Value.cells] at hcs
    obtain ⟨rfl, rfl, rfl⟩ := hcs
    exact ⟨fun _ => ⟨0, 0, []⟩, fun h => absurd h (Nat.lt_irrefl _), fun i hi => absurd hi (Nat.not_lt_zero _), Nat.le_refl _, Nat.zero_le _⟩
  · simp [Value.cells] at hcs
    obtain ⟨rfl, rfl, rfl⟩ := hcs
    simp only [Prod.mk.injEq] at hx
    obtain ⟨rfl, _⟩ := hx
    simp only [if_true] at hmm
    subst hmm
    rw [cells31] at hel
    haveI : Inhabited Dg := ⟨⟨0, 0, []⟩⟩
    obtain ⟨Z, hZ⟩ := choose_lt (n := len) (α := Dg) (p := fun i v => v.Ok ∧ ∃ bo bc, SrcAt W bo v.bs.length bc (u8s v.bs) ∧ ∀ j, j < 3 → W.cell? ((x.add (i * 3)).add j) = [Value.int .i64 v.fr, .int .i64 v.to, .slice bo v.bs.length bc][j]?) (fun i hi => by
      obtain ⟨cs', h1, h2⟩ := hel i (by omega)
      obtain ⟨v, bo, bc, rfl, hs, hok⟩ := read_dg h2 (fun k hk => hw k (weights_elem Try.underlying22 D len _ i hi k hk))
      exact ⟨v, hok, bo, bc, hs, (World.cells?_some h1).2.2⟩)
    refine ⟨Z, fun h0 => ?_, fun i hi => (hZ i hi).1, by omega, by omega⟩
    obtain ⟨b, off, spot⟩ := x
    have hs : spot = none := by
      obtain ⟨_, bo, bc, _, g⟩ := hZ 0 h0
      have := g 0 (by omega)
      simpa [Addr.add] using World.cell?_spot this
    subst hs
    refine ⟨b, off, rfl, fun i hi => ?_⟩
    obtain ⟨_, bo, bc, hsrc, g⟩ := hZ i hi
    simp only [add_none] at g
    exact ⟨g 0 (by omega), g 1 (by omega), bo, bc, g 2 (by omega), hsrc⟩

theorem open_row42 {H : Type} {enc : TypeId × Value → H} {W : World} {d : DataW H} {p : List MemPlace} (a : Option Addr) (len cap : Nat) (h : DataW.Trod enc Try.prog W 0 (fun _ => true) true 42 (.slice a len cap) d p) (hw : ∀ m ∈ d.weights Try.prog 42, m ≤ reachBytes) :
    ∃ Z : Nat → StepV, StepsAt W a len Z ∧ (∀ i, i < len → (Z i).Ok) ∧ len ≤ cap ∧ cap ≤ maxLen := by
  obtain ⟨fuel, hf⟩ := h
  rcases open_slice Try.underlying42 hf with ⟨hcs, _⟩ | ⟨x, l, c, m, n, D, Pl, hcs, _, hl, hm, hmm, hx, hel⟩
  · simp [Value.cells] at hcs
    obtain ⟨rfl, rfl, rfl⟩ := hcs
    exact ⟨fun _ => ⟨0, 0, ⟨0, 0, []⟩⟩, fun h => absurd h (Nat.lt_irrefl _), fun i hi => absurd hi (Nat.not_lt_zero _), Nat.le_refl _, Nat.zero_le _⟩
  · simp [Value.cells] at hcs
    obtain ⟨rfl, rfl, rfl⟩ := hcs
    simp only [Prod.mk.injEq] at hx
    obtain ⟨rfl, _⟩ := hx
    simp only [if_true] at hmm
    subst hmm
    rw [cells47] at hel
    haveI : Inhabited StepV := ⟨⟨0, 0, ⟨0, 0, []⟩⟩⟩
    obtain ⟨Z, hZ⟩ := choose_lt (n := len) (α := StepV) (p := fun i v => v.Ok ∧ ∃ bo bc, SrcAt W bo v.d.bs.length bc (u8s v.d.bs) ∧ ∀ j, j < 5 → W.cell? ((x.add (i * 5)).add j) = [Value.int .i64 v.what, .int .i64 v.k, .int .i64 v.d.fr, .int .i64 v.d.to, .slice bo v.d.bs.length bc][j]?) (fun i hi => by
      obtain ⟨cs', h1, h2⟩ := hel i (by omega)
      obtain ⟨v, bo, bc, rfl, hs, hok⟩ := read_step h2 (fun k hk => hw k (weights_elem Try.underlying42 D len _ i hi k hk))
      exact ⟨v, hok, bo, bc, hs, (World.cells?_some h1).2.2⟩)
    refine ⟨Z, fun h0 => ?_, fun i hi => (hZ i hi).1, by omega, by omega⟩
    obtain ⟨b, off, spot⟩ := x
    have hs : spot = none := by
      obtain ⟨_, bo, bc, _, g⟩ := hZ 0 h0
      have := g 0 (by omega)
      simpa [Addr.add] using World.cell?_spot this
    subst hs
    refine ⟨b, off, rfl, fun i hi => ?_⟩
    obtain ⟨_, bo, bc, hsrc, g⟩ := hZ i hi
    simp only [add_none] at g
    exact ⟨g 0 (by omega), g 1 (by omega), g 2 (by omega), g 3 (by omega), bo, bc, g 4 (by omega), hsrc⟩
end Go.Proofs.Ytibagcgnaceimaa
