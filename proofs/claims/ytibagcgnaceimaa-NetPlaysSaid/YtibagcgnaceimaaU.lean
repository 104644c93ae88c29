/- The program's net as a list of datagrams: each call's contract, whatever it is asked. -/
import Derived.Test.YtibagcgnaceimaaT
namespace Go.Proofs.Ytibagcgnaceimaa
open Go.ChangeShapes Go.WideShapes Go.ChangeAt Go.RowKit
set_option linter.unusedVariables false

/-- A net that tells the datagrams 'L'. -/
def NetIs (w : World) (F : Nat → Prop) (n : Nat) (B : Value → Obj) (L : List Dg) : Prop := ∃ v H, NetAt w F n B v H ∧ H.map (·.1) = L

def inB (L : List Dg) (k : Int) : Bool := decide (0 ≤ k ∧ k < L.length)
def dgAt (L : List Dg) (k : Int) : Dg := if inB L k then L.getD k.toNat ⟨0, 0, []⟩ else ⟨0, 0, []⟩
def fits (most : Int) (L : List Dg) (bl : Nat) : Bool := decide ((L.length : Int) < most ∧ bl ≤ 1024)
def twice (most : Int) (L : List Dg) (k : Int) : Bool := inB L k && decide ((L.length : Int) < most)
def without (L : List Dg) (k : Int) : List Dg := if inB L k then L.eraseIdx k.toNat else L

theorem NetIs.keep {w w' : World} {F : Nat → Prop} {n : Nat} {B : Value → Obj} {L : List Dg} (h : NetIs w F n B L) (hz : w.heap.size ≤ w'.heap.size) (hk : ∀ b, F b → w'.heap[b]? = w.heap[b]?) : NetIs w' F n B L :=
  let ⟨v, H, hn, hl⟩ := h
  ⟨v, H, hn.keep hz hk, hl⟩
theorem NetIs.below {w w' : World} {F : Nat → Prop} {n : Nat} {B : Value → Obj} {L : List Dg} {k : Nat} (h : NetIs w F n B L) (hb : Below k w w') (hk : w.heap.size ≤ k) : NetIs w' F n B L :=
  let ⟨v, H, hn, hl⟩ := h
  ⟨v, H, hn.below hb hk, hl⟩
theorem NetIs.other {w w' : World} {F G G' : Nat → Prop} {n : Nat} {B : Value → Obj} {L : List Dg} (h : NetIs w F n B L) (hc : Chg G G' w w') (hd : ∀ b, F b → ¬ G b) : NetIs w' F n B L :=
  let ⟨v, H, hn, hl⟩ := h
  ⟨v, H, hn.other hc hd, hl⟩
theorem NetIs.lt {w : World} {F : Nat → Prop} {n : Nat} {B : Value → Obj} {L : List Dg} (h : NetIs w F n B L) : ∀ b, F b → b < w.heap.size :=
  let ⟨_, _, hn, _⟩ := h
  hn.lt
theorem NetIs.small {w : World} {F : Nat → Prop} {n : Nat} {B : Value → Obj} {L : List Dg} (h : NetIs w F n B L) : ∀ d ∈ L, d.bs.length ≤ 1024 := by
  obtain ⟨v, H, hn, rfl⟩ := h
  intro d hd
  obtain ⟨p, hp, rfl⟩ := List.mem_map.1 hd
  exact hn.small p hp

theorem inB_at {L : List Dg} {k : Int} (h : inB L k = true) : 0 ≤ k ∧ k < L.length := of_decide_eq_true h
theorem inB_out {L : List Dg} {k : Int} (h : ¬ (0 ≤ k ∧ k < L.length)) : inB L k = false := decide_eq_false h
theorem inB_in {L : List Dg} {k : Nat} (h : k < L.length) : inB L k = true := decide_eq_true ⟨by omega, by omega⟩
theorem dgAt_in {L : List Dg} {k : Nat} {d : Dg} (h : L[k]? = some d) : dgAt L k = d := by
  have hk := (List.getElem?_eq_some_iff.1 h).1
  simp [dgAt, inB_in hk, h]
theorem dgAt_out {L : List Dg} {k : Int} (h : inB L k = false) : dgAt L k = ⟨0, 0, []⟩ := by simp [dgAt, h]

section
variable (w : World) (F : Nat → Prop) (n : Nat) (most lost : Int) (L : List Dg)

theorem lenP (h : NetIs w F n (netP most lost) L) :
    Calls Try.prog 23 #[.pointer (some ⟨n, 0, none⟩)] w fun e w' => e = .returned (.int .i64 L.length) ∧ w = w' := by
  obtain ⟨v, H, hn, rfl⟩ := h
  simpa using len_net w F n most lost v H hn
theorem lostP (h : NetIs w F n (netP most lost) L) :
    Calls Try.prog 24 #[.pointer (some ⟨n, 0, none⟩)] w fun e w' => e = .returned (.int .i64 lost) ∧ w = w' := by
  obtain ⟨v, H, hn, rfl⟩ := h
  exact lost_net w F n most lost v H hn

theorem sendP (h : NetIs w F n (netP most lost) L) (d : Dg) (bo : Option Addr) (bc : Nat) (hs : SrcAt w bo d.bs.length bc (u8s d.bs)) (hl : (d.bs.length : Int) ≤ 140737488355328) (hmost : most ≤ 256) (hlost : 0 ≤ lost ∧ lost ≤ 1000000) :
    Calls Try.prog 10 #[.pointer (some ⟨n, 0, none⟩), .agg #[.int .i64 d.fr, .int .i64 d.to, .slice bo d.bs.length bc]] w fun e w' => e = .returned (.bool (fits most L d.bs.length)) ∧
      ∃ F', NetIs w' F' n (netP most (if fits most L d.bs.length then lost else lost + 1)) (if fits most L d.bs.length then L ++ [d] else L) ∧ Chg F F' w w' := by
  obtain ⟨v, H, hn, rfl⟩ := h
  by_cases hf : (H.length : Int) < most ∧ d.bs.length ≤ 1024
  · have e1 : fits most (H.map (·.1)) d.bs.length = true := by simp [fits, hf]
    rw [e1]
    refine (send_yes w F n most lost v H hn d.fr d.to bo bc d.bs hs hf.1 hmost hf.2).mono ?_
    rintro e w' ⟨rfl, F', v', sv, hn', hc⟩
    exact ⟨rfl, F', ⟨v', _, hn', by simp⟩, hc⟩
  · have e1 : fits most (H.map (·.1)) d.bs.length = false := by simpa [fits] using hf
    rw [e1]
    refine (send_no w F n most lost v H hn d.fr d.to bo bc d.bs.length (by omega) hl hlost).mono ?_
    rintro e w' ⟨rfl, hn', hc⟩
    exact ⟨rfl, F, ⟨v, H, hn', rfl⟩, hc⟩

theorem peekP (h : NetIs w F n (netP most lost) L) (k : Int) :
    Calls Try.prog 13 #[.pointer (some ⟨n, 0, none⟩), .int .i64 k] w fun e w' => ∃ v', e = .returned (.tuple #[.agg #[.int .i64 (dgAt L k).fr, .int .i64 (dgAt L k).to, v'], .bool (inB L k)]) ∧
      w'.ownsRow w.heap.size 5 1 v' (dgAt L k).bs.length (u8s (dgAt L k).bs) ∧ Below w.heap.size w w' := by
  obtain ⟨v, H, hn, rfl⟩ := h
  by_cases hb : 0 ≤ k ∧ k < (H.map (·.1)).length
  · obtain ⟨k, rfl⟩ := Int.eq_ofNat_of_zero_le hb.1
    have hk : k < (H.map (·.1)).length := by omega
    have hk' : k < H.length := by simpa using hk
    rw [inB_in hk, dgAt_in (d := (H[k]).1) (by simp [List.getElem?_eq_getElem hk'])]
    exact peek_in w F n most lost v H hn k H[k].1 H[k].2 (List.getElem?_eq_getElem hk')
  · rw [inB_out hb, dgAt_out (inB_out hb)]
    refine (peek_out w F n most lost v H hn k (by simpa using hb)).mono ?_
    rintro e w' ⟨rfl, hbel⟩
    exact ⟨_, rfl, World.ownsRow_nil _ _ _ _, hbel⟩

theorem takeP (h : NetIs w F n (netP most lost) L) (k : Int) :
    Calls Try.prog 15 #[.pointer (some ⟨n, 0, none⟩), .int .i64 k] w fun e w' => ∃ v', e = .returned (.tuple #[.agg #[.int .i64 (dgAt L k).fr, .int .i64 (dgAt L k).to, v'], .bool (inB L k)]) ∧
      w'.ownsRow w.heap.size 5 1 v' (dgAt L k).bs.length (u8s (dgAt L k).bs) ∧ NetIs w' F n (netP most lost) (without L k) ∧ Chg F F w w' := by
  have hN := h
  obtain ⟨v, H, hn, rfl⟩ := h
  by_cases hb : 0 ≤ k ∧ k < (H.map (·.1)).length
  · obtain ⟨k, rfl⟩ := Int.eq_ofNat_of_zero_le hb.1
    have hk : k < (H.map (·.1)).length := by omega
    have hk' : k < H.length := by simpa using hk
    have he : without (H.map (·.1)) (k : Int) = (H.eraseIdx k).map (·.1) := by simp [without, inB_in hk, List.eraseIdx_eq_take_drop_succ]
    rw [inB_in hk, dgAt_in (d := (H[k]).1) (by simp [List.getElem?_eq_getElem hk']), he]
    refine (take_in w F n most lost v H hn k H[k].1 H[k].2 (List.getElem?_eq_getElem hk')).mono ?_
    rintro e w' ⟨sv', v', rfl, hown, hn', hc⟩
    exact ⟨_, rfl, hown, ⟨v', _, hn', rfl⟩, hc⟩
  · have he : without (H.map (·.1)) k = H.map (·.1) := by simp [without, inB_out hb]
    rw [inB_out hb, dgAt_out (inB_out hb), he]
    refine (take_out w F n most lost v H hn k (by simpa using hb)).mono ?_
    rintro e w' ⟨rfl, hbel⟩
    exact ⟨_, rfl, World.ownsRow_nil _ _ _ _, hN.below hbel (Nat.le_refl _), Chg.of_below hbel (Nat.le_refl _)⟩

theorem doubleP (h : NetIs w F n (netP most lost) L) (k : Int) (hmost : most ≤ 256) :
    Calls Try.prog 18 #[.pointer (some ⟨n, 0, none⟩), .int .i64 k] w fun e w' => e = .returned (.bool (twice most L k)) ∧
      ∃ F', NetIs w' F' n (netP most lost) (if twice most L k then L ++ [dgAt L k] else L) ∧ Chg F F' w w' := by
  have hN := h
  obtain ⟨v, H, hn, rfl⟩ := h
  by_cases hb : 0 ≤ k ∧ k < (H.map (·.1)).length
  · obtain ⟨k, rfl⟩ := Int.eq_ofNat_of_zero_le hb.1
    have hk : k < (H.map (·.1)).length := by omega
    have hk' : k < H.length := by simpa using hk
    by_cases hr : (H.length : Int) < most
    · have e1 : twice most (H.map (·.1)) (k : Int) = true := by simp [twice, inB_in hk, hr]
      rw [e1, dgAt_in (d := (H[k]).1) (by simp [List.getElem?_eq_getElem hk'])]
      refine (double_yes w F n most lost v H hn k H[k].1 H[k].2 (List.getElem?_eq_getElem hk') hr hmost).mono ?_
      rintro e w' ⟨rfl, F', v', sv', hn', hc⟩
      exact ⟨rfl, F', ⟨v', _, hn', by simp⟩, hc⟩
    · have e1 : twice most (H.map (·.1)) (k : Int) = false := by simp [twice]; intro; omega
      rw [e1]
      refine (double_full w F n most lost v H hn k hk' (by omega)).mono ?_
      rintro e w' ⟨rfl, hbel⟩
      exact ⟨rfl, F, hN.below hbel (Nat.le_refl _), Chg.of_below hbel (Nat.le_refl _)⟩
  · have e1 : twice most (H.map (·.1)) k = false := by simp [twice, inB_out hb]
    rw [e1]
    refine (double_out w F n most lost v H hn k (by simpa using hb)).mono ?_
    rintro e w' ⟨rfl, hbel⟩
    exact ⟨rfl, F, hN.below hbel (Nat.le_refl _), Chg.of_below hbel (Nat.le_refl _)⟩

theorem allP (h : NetIs w F n (netP most lost) L) (hlen : L.length ≤ 256) :
    Calls Try.prog 11 #[.pointer (some ⟨n, 0, none⟩)] w fun e w' => ∃ v' H', e = .returned v' ∧ H'.map (·.1) = L ∧ DList w.heap.size w' v' H' ∧ Below w.heap.size w w' := by
  obtain ⟨v, H, hn, rfl⟩ := h
  exact all_net w F n most lost v H hn (by simpa using hlen)

theorem newP (m : Int) (h1 : 1 ≤ m) (h2 : m ≤ 256) :
    Calls Try.prog 8 #[.int .i64 m] w fun e w' => e = .returned (.tuple #[.pointer (some ⟨w.heap.size, 0, none⟩), .int .i64 0]) ∧ NetIs w' (fun b => b = w.heap.size) w.heap.size (netP m 0) [] ∧ Below w.heap.size w w' :=
  (new_ok m w h1 h2).mono fun e w' ⟨he, hw⟩ => ⟨he, ⟨_, _, hw ▸ new_net w (netP m 0), rfl⟩, hw ▸ (Below.refl _ _).alloc (Nat.le_refl _) _⟩
end

theorem sendY {w : World} {F : Nat → Prop} {n : Nat} {most lost : Int} {L : List Dg} (h : NetIs w F n (netP most lost) L) (d : Dg) (bo : Option Addr) (bc : Nat) (hs : SrcAt w bo d.bs.length bc (u8s d.bs)) (hmost : most ≤ 256) (hlost : 0 ≤ lost ∧ lost ≤ 1000000) (hf : fits most L d.bs.length = true) :
    Calls Try.prog 10 #[.pointer (some ⟨n, 0, none⟩), .agg #[.int .i64 d.fr, .int .i64 d.to, .slice bo d.bs.length bc]] w fun e w' => e = .returned (.bool true) ∧ ∃ F', NetIs w' F' n (netP most lost) (L ++ [d]) ∧ Chg F F' w w' := by
  have hb := (of_decide_eq_true hf : _ ∧ _).2
  have := sendP w F n most lost L h d bo bc hs (by omega) hmost hlost
  rw [hf] at this
  exact this
theorem sendN {w : World} {F : Nat → Prop} {n : Nat} {most lost : Int} {L : List Dg} (h : NetIs w F n (netP most lost) L) (fr to : Int) (bo : Option Addr) (bl bc : Nat) (hl : (bl : Int) ≤ 140737488355328) (hlost : 0 ≤ lost ∧ lost ≤ 1000000) (hf : fits most L bl = false) :
    Calls Try.prog 10 #[.pointer (some ⟨n, 0, none⟩), .agg #[.int .i64 fr, .int .i64 to, .slice bo bl bc]] w fun e w' => e = .returned (.bool false) ∧ NetIs w' F n (netP most (lost + 1)) L ∧ Chg F F w w' := by
  obtain ⟨v, H, hn, rfl⟩ := h
  have hf' := of_decide_eq_false hf
  rw [List.length_map] at hf'
  refine (send_no w F n most lost v H hn fr to bo bc bl (by omega) hl hlost).mono ?_
  rintro e w' ⟨rfl, hn', hc⟩
  exact ⟨rfl, ⟨v, H, hn', rfl⟩, hc⟩
theorem takeY {w : World} {F : Nat → Prop} {n : Nat} {most lost : Int} {L : List Dg} (h : NetIs w F n (netP most lost) L) (k : Int) (d : Dg) (L' : List Dg) (b : Bool) (hb : inB L k = b) (hd : dgAt L k = d) (hL : without L k = L') :
    Calls Try.prog 15 #[.pointer (some ⟨n, 0, none⟩), .int .i64 k] w fun e w' => ∃ v', e = .returned (.tuple #[.agg #[.int .i64 d.fr, .int .i64 d.to, v'], .bool b]) ∧
      w'.ownsRow w.heap.size 5 1 v' d.bs.length (u8s d.bs) ∧ NetIs w' F n (netP most lost) L' ∧ Chg F F w w' := by
  subst hb hd hL
  exact takeP w F n most lost L h k
theorem peekY {w : World} {F : Nat → Prop} {n : Nat} {most lost : Int} {L : List Dg} (h : NetIs w F n (netP most lost) L) (k : Int) (d : Dg) (b : Bool) (hb : inB L k = b) (hd : dgAt L k = d) :
    Calls Try.prog 13 #[.pointer (some ⟨n, 0, none⟩), .int .i64 k] w fun e w' => ∃ v', e = .returned (.tuple #[.agg #[.int .i64 d.fr, .int .i64 d.to, v'], .bool b]) ∧
      w'.ownsRow w.heap.size 5 1 v' d.bs.length (u8s d.bs) ∧ Below w.heap.size w w' := by
  subst hb hd
  exact peekP w F n most lost L h k
theorem doubleY {w : World} {F : Nat → Prop} {n : Nat} {most lost : Int} {L : List Dg} (h : NetIs w F n (netP most lost) L) (k : Int) (hmost : most ≤ 256) (b : Bool) (L' : List Dg) (hb : twice most L k = b) (hL : (if b then L ++ [dgAt L k] else L) = L') :
    Calls Try.prog 18 #[.pointer (some ⟨n, 0, none⟩), .int .i64 k] w fun e w' => e = .returned (.bool b) ∧ ∃ F', NetIs w' F' n (netP most lost) L' ∧ Chg F F' w w' := by
  subst hb hL
  exact doubleP w F n most lost L h k hmost

/-- A net that the walk itself has made: all of it lies above w0, and nothing below is touched. -/
structure Mine (w0 w : World) (F : Nat → Prop) (n : Nat) (B : Value → Obj) (L : List Dg) : Prop where
  net : NetIs w F n B L
  below : Below w0.heap.size w0 w
  lo : ∀ b, F b → w0.heap.size ≤ b

theorem Mine.step {w0 w w' : World} {F F' : Nat → Prop} {n : Nat} {B B' : Value → Obj} {L L' : List Dg} (h : Mine w0 w F n B L) (hn : NetIs w' F' n B' L') (hc : Chg F F' w w') : Mine w0 w' F' n B' L' :=
  ⟨hn, hc.below h.below h.below.size h.lo, fun b hb => by
    rcases hc.foot b hb with e | e
    · exact h.lo b e
    · exact Nat.le_trans h.below.size e⟩
theorem Mine.still {w0 w w' : World} {F : Nat → Prop} {n : Nat} {B : Value → Obj} {L : List Dg} (h : Mine w0 w F n B L) (hb : Below w.heap.size w w') : Mine w0 w' F n B L :=
  ⟨h.net.below hb (Nat.le_refl _), h.below.trans (hb.mono h.below.size), h.lo⟩
end Go.Proofs.Ytibagcgnaceimaa
