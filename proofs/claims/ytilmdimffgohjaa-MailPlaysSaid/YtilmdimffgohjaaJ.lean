/- A queue in a slice: appended to behind, cut in front; numbers of two slices compared. -/
import Derived.Test.YtilmdimffgohjaaF
import Derived.ArgAppend
namespace Go.Proofs.Ytilmdimffgohjaa
open Go.ChangeShapes Go.WideShapes Go.ChangeAt Go.RowKit
set_option linter.unusedVariables false

/-- A slice of one-cell things, its own from block 'base' on, wherever it begins in its block. -/
def QAt (w : World) (base : Nat) (e : TypeId) (v : Value) (xs : List Value) : Prop :=
  (xs = [] ∧ ∃ ao, v = .slice ao 0 0) ∨
  ∃ g o cap cur, v = .slice (some ⟨g, o, none⟩) xs.length cap ∧ base ≤ g ∧ w.heap[g]? = some (.cells cur e) ∧ xs.length ≤ cap ∧ 0 < cap ∧ cap ≤ maxLen ∧ o + cap ≤ cur.size ∧ ∀ j, j < xs.length → cur[o + j]? = xs[j]?

theorem cell_of_cells {w : World} {g : Nat} {cur : Array Value} {e : TypeId} (h : w.heap[g]? = some (.cells cur e)) (j : Nat) : w.cell? ⟨g, j, none⟩ = cur[j]? := by
  simp [World.cell?, h]
theorem frozen_of_cells {w : World} {g : Nat} {cur : Array Value} {e : TypeId} (h : w.heap[g]? = some (.cells cur e)) (j : Nat) : w.frozen? ⟨g, j, none⟩ = false := by
  simp [World.frozen?, h]
theorem QAt.keep {w w' : World} {base : Nat} {e : TypeId} {v : Value} {xs : List Value} {row : Option Nat} (h : QAt w base e v xs) (hg : w.grownBy w' row) (hr : ∀ k, row = some k → k < base) : QAt w' base e v xs := by
  rcases h with h | ⟨g, o, cap, cur, hv, hb, hc, rest⟩
  · exact .inl h
  · refine .inr ⟨g, o, cap, cur, hv, hb, (hg.block g (heap_lt hc) fun e => ?_).trans hc, rest⟩
    have := hr g e.symm
    omega

theorem QAt.of_owns {w : World} {base : Nat} {e : TypeId} {v : Value} {n : Nat} {xs : List Value} (h : w.ownsRow base e 1 v n xs) (h0 : 0 < n) : QAt w base e v xs := by
  have hl := h.1
  rcases h.2 with ⟨_, hn⟩ | ⟨g, cap, cur, rfl, hb, hc, hn, hm, hs, ht⟩
  · omega
  · obtain rfl : xs.length = n := by omega
    refine .inr ⟨g, 0, cap, cur, rfl, hb, hc, hn, by omega, hm, by omega, fun j hj => ?_⟩
    rw [← ht]
    simp [hj]

/-- 'append(v, x)', v a queue. -/
theorem wpList_append_queue {P : Program} (w : World) {ops : Array Oper} {rest : List Oper} {o : Oper} {a : Act} {Q : Exit → Act → World → Prop} (hgd : o.guard = none) (s x : Operand) (t : TypeId)
    (ho : o.op = Op.call { callee := Callee.builtin Builtin.append, args := #[s, x], argTypes := #[t, t] })
    (base : Nat) (e : TypeId) (i : TypeInfo) (z : Value) (bytes : Nat) (ht : P.underlying t = some (.slice e)) (hi : P.info? e = some i) (hz : i.zero = some z)
    (hsize : i.size = 1) (hby : i.bytes = bytes) (hzs : z.cells.size = 1)
    (v : Value) (xs : List Value) (hs : a.eval s = v) (hq : QAt w base e v xs)
    (ad : Addr) (c : Nat) (u : Value) (hx : a.eval x = .slice (some ad) 1 c) (hc : w.cell? ad = some u) (h1 : u.oneCell' = true)
    (h63 : xs.length + 1 ≤ maxLen) (hbytes : (xs.length + 1) * bytes ≤ 140737488355328) (hbase : base ≤ w.heap.size)
    (h : ∀ v' w' row, QAt w' base e v' (xs ++ [u]) → w.grownBy w' row → (∀ k, row = some k → base ≤ k) → wpList P ops Q rest (a.put o.dst v') w') : wpList P ops Q (o :: rest) a w := by
  have hcs : ∀ j y, [u][j]? = some y → w.cell? (ad.add j) = some y := by
    intro j y hj
    match j, hj with
    | 0, hj => simp at hj; subst hj; simpa [Addr.add] using hc
  rcases hq with ⟨rfl, ao, rfl⟩ | ⟨g, of, cap, cur, rfl, hb, hg, hn, h0, hm, hsz, hcur⟩
  · refine wpList_append_grows w hgd s x t ho e i z 1 bytes ht hi hz hsize hby hzs (by omega) ao 0 0 [] hs (fun _ => ⟨rfl, rfl⟩) rfl (by intro b _ j y hj; simp at hj) ad 1 c [u] hx rfl hcs (by intro y hy; simp at hy; subst hy; exact h1) (by omega) (by unfold maxLen; omega) (by simpa using hbytes) ?_
    intro v' w' hown hgr
    exact h v' w' none (QAt.of_owns (h := by
      obtain ⟨a1, a2⟩ := hown
      refine ⟨a1, a2.imp_right ?_⟩
      rintro ⟨g, cap, cur, hv, hb, r⟩
      exact ⟨g, cap, cur, hv, Nat.le_trans hbase hb, r⟩) (by omega)) hgr (by intro k hk; cases hk)
  · refine wpList_append_arg w hgd s x t ho e i z 1 bytes ht hi hz hsize hby hzs (by omega) g of xs.length cap xs hs (by omega) (fun j y hj => ?_) ad 1 c [u] hx rfl hcs (by intro y hy; simp at hy; subst hy; exact h1) (fun hr j hj => ?_) h63 hbytes (fun hr => ?_) (fun hr v' w' hown hgr => ?_)
    · rw [cell_of_cells hg, hcur j (List.getElem?_eq_some_iff.1 hj).1, hj]
    · obtain rfl : j = 0 := by simpa using hj
      refine ⟨?_, frozen_of_cells hg _⟩
      rw [cell_of_cells hg]
      simp only [Nat.mul_one, Nat.add_zero]
      rw [Array.getElem?_eq_getElem (by omega)]
      rfl
    · have hset : w.setCells g (of + xs.length * 1) [u] = w.setCell ⟨g, of + xs.length, none⟩ u := by simp [World.setCells]
      rw [hset]
      refine h _ _ (some g) (.inr ⟨g, of, cap, cur.setIfInBounds (of + xs.length) u, by simp, hb, heap_setCell_same _ _ _ _ _ _ hg, by simpa using hr, h0, hm, by simpa using hsz, fun j hj => ?_⟩) ?_ (by intro k hk; cases hk; exact hb)
      · simp only [List.length_append, List.length_singleton] at hj
        rw [Array.getElem?_setIfInBounds]
        by_cases hj' : j = xs.length
        · subst hj'
          simp
          omega
        · rw [if_neg (by omega), hcur j (by omega), List.getElem?_append_left (by omega)]
      · exact ⟨rfl, rfl, rfl, by simp, fun k hk hne => Below.heap_setCell _ _ _ _ (fun e => hne (by rw [e]))⟩
    · exact h v' w' none (QAt.of_owns (h := by
        obtain ⟨a1, a2⟩ := hown
        refine ⟨a1, a2.imp_right ?_⟩
        rintro ⟨g, cap, cur, hv, hb, r⟩
        exact ⟨g, cap, cur, hv, Nat.le_trans hbase hb, r⟩) (by omega)) hgr (by intro k hk; cases hk)

theorem QAt.length {w : World} {base : Nat} {e : TypeId} {v : Value} {xs : List Value} (h : QAt w base e v xs) : ∃ ao cap, v = .slice ao xs.length cap ∧ xs.length ≤ cap := by
  rcases h with ⟨rfl, ao, rfl⟩ | ⟨g, o, cap, cur, rfl, _, _, h, _⟩
  · exact ⟨ao, 0, rfl, Nat.le_refl _⟩
  · exact ⟨_, _, rfl, h⟩

/-- A queue with a first thing. -/
theorem QAt.head {w : World} {base : Nat} {e : TypeId} {v : Value} {x : Value} {xs : List Value} (h : QAt w base e v (x :: xs)) :
    ∃ g o cap, v = .slice (some ⟨g, o, none⟩) (xs.length + 1) cap ∧ w.cell? ⟨g, o, none⟩ = some x ∧ xs.length + 1 ≤ cap ∧ cap ≤ maxLen ∧
      (cap = 1 → QAt w base e (.slice (some ⟨g, o, none⟩) xs.length (cap - 1)) xs) ∧ (cap ≠ 1 → QAt w base e (.slice (some ⟨g, o + 1, none⟩) xs.length (cap - 1)) xs) := by
  rcases h with ⟨h, _⟩ | ⟨g, o, cap, cur, rfl, hb, hg, hn, h0, hm, hsz, hcur⟩
  · cases h
  · simp only [List.length_cons] at hn hcur
    have h00 := hcur 0 (by omega)
    refine ⟨g, o, cap, by simp, ?_, hn, hm, fun h1 => ?_, fun h1 => ?_⟩
    · rw [cell_of_cells hg]; simpa using h00
    · obtain rfl : xs = [] := List.eq_nil_of_length_eq_zero (by omega)
      subst h1
      exact .inl ⟨rfl, _, rfl⟩
    · refine .inr ⟨g, o + 1, cap - 1, cur, rfl, hb, hg, by omega, by omega, by omega, by omega, fun j hj => ?_⟩
      have := hcur (j + 1) (by omega)
      rw [Nat.add_assoc, Nat.add_comm 1 j, this]
      simp

/-- Where a slice's numbers lie. -/
def IntsAt (w : World) (v : Value) (l : List Int) : Prop :=
  ∃ ao cap, v = .slice ao l.length cap ∧ (0 < l.length → ∃ g o, ao = some ⟨g, o, none⟩ ∧ ∀ i, i < l.length → w.cell? ⟨g, o + i, none⟩ = some (.int .i64 (l.getD i 0)))

theorem QAt.ints {w : World} {base : Nat} {e : TypeId} {v : Value} {l : List Int} (h : QAt w base e v (l.map (Value.int .i64))) : IntsAt w v l := by
  rcases h with ⟨h, ao, rfl⟩ | ⟨g, o, cap, cur, rfl, hb, hg, hn, h0, hm, hsz, hcur⟩
  · obtain rfl : l = [] := by simpa using h
    exact ⟨ao, 0, rfl, fun h => by simp at h⟩
  · simp only [List.length_map] at hcur hn
    refine ⟨_, cap, by simp, fun _ => ⟨g, o, rfl, fun i hi => ?_⟩⟩
    rw [cell_of_cells hg, hcur i hi]
    simp [List.getD_eq_getElem?_getD, hi]

theorem ints_of_owns {w : World} {base : Nat} {e : TypeId} {v : Value} {n : Nat} {l : List Int} (hn : n = l.length) (h : w.ownsRow base e 1 v n (l.map (Value.int .i64))) : IntsAt w v l := by
  subst hn
  rcases Nat.eq_zero_or_pos l.length with h0 | h0
  · obtain rfl : l = [] := List.eq_nil_of_length_eq_zero h0
    rcases h.2 with ⟨rfl, _⟩ | ⟨g, cap, cur, rfl, _⟩
    · exact ⟨none, 0, rfl, fun h => by simp at h⟩
    · exact ⟨_, _, rfl, fun h => by simp at h⟩
  · exact (QAt.of_owns h h0).ints

set_option maxRecDepth 100000 in
theorem ints_same (u v : Value) (l : List Int) (w : World) (hl : (l.length : Int) ≤ 1000000) (ha : IntsAt w u l) (hb : IntsAt w v l) :
    Calls Try.prog 20 #[u, v] w fun e w' => e = .returned (.bool true) ∧ ∃ q, w.drewN q = w' := by
  obtain ⟨ao, c, rfl, ha⟩ := ha
  obtain ⟨bo, d, rfl, hb⟩ := hb
  have HA := Lib.hid ha
  have HB := Lib.hid hb
  clear ha hb
  generalize hn : l.length = n at *
  go_enter Try.func20, Try.ntmps20
  go_wp2_with fail
  go_loopw [5] (fun i wr => ∃ k q : Nat, k ≤ n ∧ i = .int .i64 k ∧ w.drewN q = wr) (fun i _ => n - (intOf i).toNat)
  case atStart => exact ⟨0, 0, Nat.zero_le _, rfl, rfl⟩
  case round =>
    obtain ⟨k, q, hk, rfl, rfl⟩ := hrel
    by_cases hkn : k < n
    · obtain ⟨g, o, rfl, hc⟩ := HA.out (by omega)
      obtain ⟨g', o', rfl, hd⟩ := HB.out (by omega)
      have c0 := hc k hkn
      have d0 := hd k hkn
      clear hc hd
      generalize l.getD k 0 = y at c0 d0
      go_wp2_with fail
      go_quiet (fail)
      go_wp2_with fail
      go_roundw
      case rel => exact ⟨k + 1, _, by omega, by go_num, rfl⟩
      case measure => simp [intOf]; omega
    · go_wp2_with fail
      go_ret
      exact ⟨rfl, _, rfl⟩
end Go.Proofs.Ytilmdimffgohjaa
