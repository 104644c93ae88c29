/- A net in memory, whose blocks lie in a footprint F: the program's and the reference's; New, Len, Lost. -/
import Derived.Test.YtibagcgnaceimaaA
namespace Go.Proofs.Ytibagcgnaceimaa
open Go.ChangeShapes Go.WideShapes Go.ChangeAt Go.RowKit
set_option linter.unusedVariables false

structure Dg where
  fr : Int
  to : Int
  bs : List Int

/-- The cells of a row of datagrams, each with its slice of bytes. -/
def dcells (H : List (Dg × Value)) : List Value := H.flatMap fun p => [.int .i64 p.1.fr, .int .i64 p.1.to, p.2]

theorem dcells_length (H : List (Dg × Value)) : (dcells H).length = H.length * 3 := by
  induction H with
  | nil => rfl
  | cons x r ih => simp only [dcells, List.flatMap_cons, List.length_append, List.length_cons, List.length_nil] at ih ⊢; omega
theorem dcells_append (H K : List (Dg × Value)) : dcells (H ++ K) = dcells H ++ dcells K := by simp [dcells]
theorem dcells_one (d : Dg) (sv : Value) : dcells [(d, sv)] = [.int .i64 d.fr, .int .i64 d.to, sv] := by simp [dcells]
theorem dcells_at (H : List (Dg × Value)) (i : Nat) (p : Dg × Value) (h : H[i]? = some p) : (dcells H)[i * 3]? = some (.int .i64 p.1.fr) ∧ (dcells H)[i * 3 + 1]? = some (.int .i64 p.1.to) ∧ (dcells H)[i * 3 + 2]? = some p.2 := by
  induction H generalizing i with
  | nil => simp at h
  | cons x r ih =>
    cases i with
    | zero => simp at h; subst h; simp [dcells]
    | succ i =>
      simp only [List.getElem?_cons_succ] at h
      have := ih i h
      simpa [dcells, Nat.succ_mul, Nat.add_assoc, Nat.add_comm 3, ← Nat.add_assoc] using this

theorem owns_src {w : World} {base : Nat} {e : TypeId} {size : Nat} {v : Value} {n : Nat} {xs : List Value} (h : w.ownsRow base e size v n xs) : ∃ ao c, v = .slice ao n c ∧ SrcAt w ao n c xs := by
  have hl := h.1
  rcases h.2 with ⟨rfl, rfl⟩ | ⟨g, cap, cur, rfl, _, hg, hn, hm, hs, ht⟩
  · exact ⟨none, 0, rfl, .inl ⟨rfl, rfl, rfl⟩⟩
  · refine ⟨_, cap, rfl, .inr ⟨_, rfl, fun j u hu => ?_⟩⟩
    have hadd : (⟨g, 0, none⟩ : Addr).add j = ⟨g, j, none⟩ := by unfold Addr.add; split <;> simp_all
    rw [hadd, h.cellAt j (by have := (List.getElem?_eq_some_iff.1 hu).1; omega)]
    exact hu

/-- An owned row stays where its block stays. -/
theorem owns_keep {w w' : World} {base : Nat} {e : TypeId} {size : Nat} {v : Value} {n : Nat} {xs : List Value} (h : w.ownsRow base e size v n xs) (hk : ∀ g, v.ownBlock = some g → w'.heap[g]? = w.heap[g]?) : w'.ownsRow base e size v n xs :=
  ⟨h.1, h.2.imp_right fun ⟨g, cap, cur, hv, hb, hg, r⟩ => ⟨g, cap, cur, hv, hb, (hk g (by rw [hv]; rfl)).trans hg, r⟩⟩

theorem owns_at {w : World} {base : Nat} {e : TypeId} {size : Nat} {v : Value} {n : Nat} {xs : List Value} (h : w.ownsRow base e size v n xs) (g : Nat) (hg : v.ownBlock = some g) : ∃ cur, w.heap[g]? = some (.cells cur e) := by
  rcases h.2 with ⟨rfl, _⟩ | ⟨g', cap, cur, rfl, _, hg', _⟩
  · cases hg
  · cases hg; exact ⟨cur, hg'⟩

/-- A net: its own block's content is 'B v', its row 'v' tells 'H', each datagram's bytes are its own; all of it lies in F. -/
structure NetAt (w : World) (F : Nat → Prop) (n : Nat) (B : Value → Obj) (v : Value) (H : List (Dg × Value)) : Prop where
  blk : w.heap[n]? = some (B v)
  row : w.ownsRow 0 31 3 v H.length (dcells H)
  foot : F n
  rowF : ∀ g, v.ownBlock = some g → F g
  dg : ∀ p ∈ H, w.ownsRow 0 5 1 p.2 p.1.bs.length (u8s p.1.bs) ∧ ∀ g, p.2.ownBlock = some g → F g
  lt : ∀ b, F b → b < w.heap.size
  small : ∀ p ∈ H, p.1.bs.length ≤ 1024

/-- The program's block, the reference's block. -/
def netP (most lost : Int) (v : Value) : Obj := .cells #[v, .int .i64 most, .int .i64 lost] 51
def netR (most lost : Int) (v : Value) : Obj := .cells #[.int .i64 most, .int .i64 lost, v] 45

/-- What a call on a net turns: blocks of F, and new ones; its footprint grows by new blocks alone. -/
structure Chg (F F' : Nat → Prop) (w w' : World) : Prop where
  os : w'.os = w.os
  tape : w'.tape = w.tape
  output : w'.output = w.output
  size : w.heap.size ≤ w'.heap.size
  block : ∀ b, b < w.heap.size → ¬ F b → w'.heap[b]? = w.heap[b]?
  foot : ∀ b, F' b → F b ∨ w.heap.size ≤ b

theorem NetAt.keep {w w' : World} {F : Nat → Prop} {n : Nat} {B : Value → Obj} {v : Value} {H : List (Dg × Value)} (h : NetAt w F n B v H) (hz : w.heap.size ≤ w'.heap.size) (hk : ∀ b, F b → w'.heap[b]? = w.heap[b]?) : NetAt w' F n B v H :=
  ⟨(hk n h.foot).trans h.blk, owns_keep h.row fun g hg => hk g (h.rowF g hg), h.foot, h.rowF, fun p hp => ⟨owns_keep (h.dg p hp).1 fun g hg => hk g ((h.dg p hp).2 g hg), (h.dg p hp).2⟩, fun b hb => Nat.lt_of_lt_of_le (h.lt b hb) hz, h.small⟩
theorem NetAt.below {w w' : World} {F : Nat → Prop} {n : Nat} {B : Value → Obj} {v : Value} {H : List (Dg × Value)} {k : Nat} (h : NetAt w F n B v H) (hb : Below k w w') (hk : w.heap.size ≤ k) : NetAt w' F n B v H :=
  h.keep hb.size fun b hF => hb.block b (Nat.lt_of_lt_of_le (h.lt b hF) hk)
theorem NetAt.grown {w w' : World} {F : Nat → Prop} {n : Nat} {B : Value → Obj} {v : Value} {H : List (Dg × Value)} {row : Option Nat} (h : NetAt w F n B v H) (hg : w.grownBy w' row) (hr : ∀ k, row = some k → ¬ F k) : NetAt w' F n B v H :=
  h.keep hg.size fun b hF => hg.block b (h.lt b hF) (fun e => hr b e.symm hF)
theorem NetAt.other {w w' : World} {F G G' : Nat → Prop} {n : Nat} {B : Value → Obj} {v : Value} {H : List (Dg × Value)} (h : NetAt w F n B v H) (hc : Chg G G' w w') (hd : ∀ b, F b → ¬ G b) : NetAt w' F n B v H :=
  h.keep hc.size fun b hF => hc.block b (h.lt b hF) (hd b hF)

theorem Chg.refl (F : Nat → Prop) (w : World) : Chg F F w w := ⟨rfl, rfl, rfl, Nat.le_refl _, fun _ _ _ => rfl, fun _ h => .inl h⟩
theorem Chg.of_below {F : Nat → Prop} {w w' : World} {k : Nat} (hb : Below k w w') (hk : w.heap.size ≤ k) : Chg F F w w' :=
  ⟨hb.os, hb.tape, hb.output, hb.size, fun b h _ => hb.block b (Nat.lt_of_lt_of_le h hk), fun _ h => .inl h⟩
theorem Chg.trans {F G K : Nat → Prop} {a b c : World} (h : Chg F G a b) (k : Chg G K b c) : Chg F K a c :=
  ⟨k.os.trans h.os, k.tape.trans h.tape, k.output.trans h.output, Nat.le_trans h.size k.size, fun i hi hn => (k.block i (Nat.lt_of_lt_of_le hi h.size) (fun hG => by
    rcases h.foot i hG with e | e
    · exact hn e
    · omega)).trans (h.block i hi hn), fun i hi => by
    rcases k.foot i hi with e | e
    · exact h.foot i e
    · exact .inr (Nat.le_trans h.size e)⟩
theorem Chg.grown {F : Nat → Prop} {w w' : World} {row : Option Nat} (hg : w.grownBy w' row) (hr : ∀ k, row = some k → F k ∨ w.heap.size ≤ k) : Chg F F w w' :=
  ⟨hg.os, hg.tape, hg.output, hg.size, fun b hb hn => hg.block b hb (fun e => by
    rcases hr b e.symm with h | h
    · exact hn h
    · omega), fun _ h => .inl h⟩
/-- Nothing elder than w0 is touched, as long as F holds nothing elder. -/
theorem Chg.below {F G : Nat → Prop} {w0 w w' : World} {k : Nat} (h : Chg F G w w') (hb : Below k w0 w) (hk : k ≤ w.heap.size) (hF : ∀ b, F b → k ≤ b) : Below k w0 w' :=
  hb.trans ⟨h.os, h.tape, h.output, h.size, fun b hb => h.block b (by omega) (fun hf => by have := hF b hf; omega)⟩

theorem new_bad (m : Int) (w : World) (h : ¬ (1 ≤ m ∧ m ≤ 256)) :
    Calls Try.prog 8 #[.int .i64 m] w fun e w' => e = .returned (.tuple #[.pointer none, .int .i64 1]) ∧ w = w' := by
  by_cases g1 : 1 ≤ m
  · have g2 : 256 < m := by omega
    clear h
    go_enter Try.func8, Try.ntmps8
    go_wp2_with fail
    go_ret2
    exact ⟨rfl, rfl⟩
  · clear h
    go_enter Try.func8, Try.ntmps8
    go_wp2_with fail
    go_ret2
    exact ⟨rfl, rfl⟩

theorem new_ok (m : Int) (w : World) (h1 : 1 ≤ m) (h2 : m ≤ 256) :
    Calls Try.prog 8 #[.int .i64 m] w fun e w' => e = .returned (.tuple #[.pointer (some ⟨w.heap.size, 0, none⟩), .int .i64 0]) ∧ w.alloc (netP m 0 (.slice none 0 0)) = w' := by
  go_enter Try.func8, Try.ntmps8
  go_wp2_with fail
  go_ret2
  exact ⟨rfl, rfl⟩

theorem new_net (w : World) (B : Value → Obj) : NetAt (w.alloc (B (.slice none 0 0))) (fun b => b = w.heap.size) w.heap.size B (.slice none 0 0) [] :=
  ⟨heap_alloc_new _ _, World.ownsRow_nil _ _ _ _, rfl, (fun g hg => by cases hg), (fun p hp => by cases hp), (fun b hb => by subst hb; simp), (fun p hp => by cases hp)⟩

section
variable (w : World) (F : Nat → Prop) (n : Nat) (most lost : Int) (v : Value) (H : List (Dg × Value))

theorem NetAt.cellsP {w : World} {F : Nat → Prop} {n : Nat} {most lost : Int} {v : Value} {H : List (Dg × Value)} (h : NetAt w F n (netP most lost) v H) :
    w.cell? ⟨n, 0, none⟩ = some v ∧ w.cell? ⟨n, 1, none⟩ = some (.int .i64 most) ∧ w.cell? ⟨n, 2, none⟩ = some (.int .i64 lost) ∧ w.frozen? ⟨n, 0, none⟩ = false ∧ w.frozen? ⟨n, 2, none⟩ = false := by
  have hb := h.blk
  unfold netP at hb
  simp [World.cell?, World.frozen?, hb]
theorem NetAt.cellsR {w : World} {F : Nat → Prop} {n : Nat} {most lost : Int} {v : Value} {H : List (Dg × Value)} (h : NetAt w F n (netR most lost) v H) :
    w.cell? ⟨n, 2, none⟩ = some v ∧ w.cell? ⟨n, 0, none⟩ = some (.int .i64 most) ∧ w.cell? ⟨n, 1, none⟩ = some (.int .i64 lost) ∧ w.frozen? ⟨n, 2, none⟩ = false ∧ w.frozen? ⟨n, 1, none⟩ = false := by
  have hb := h.blk
  unfold netR at hb
  simp [World.cell?, World.frozen?, hb]

theorem len_net (h : NetAt w F n (netP most lost) v H) :
    Calls Try.prog 23 #[.pointer (some ⟨n, 0, none⟩)] w fun e w' => e = .returned (.int .i64 H.length) ∧ w = w' := by
  obtain ⟨c0, c1, c2, f0, f2⟩ := h.cellsP
  obtain ⟨ao, c, rfl, _⟩ := owns_slice h.row
  clear h
  go_enter Try.func23, Try.ntmps23
  go_wp2_with fail
  go_ret
  exact ⟨rfl, rfl⟩

theorem lost_net (h : NetAt w F n (netP most lost) v H) :
    Calls Try.prog 24 #[.pointer (some ⟨n, 0, none⟩)] w fun e w' => e = .returned (.int .i64 lost) ∧ w = w' := by
  obtain ⟨c0, c1, c2, f0, f2⟩ := h.cellsP
  clear h
  go_enter Try.func24, Try.ntmps24
  go_wp2_with fail
  go_ret
  exact ⟨rfl, rfl⟩
end
end Go.Proofs.Ytibagcgnaceimaa
