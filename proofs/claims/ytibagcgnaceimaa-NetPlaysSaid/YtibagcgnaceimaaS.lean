/- The reference's net as a list of datagrams; two nets beside each other. -/
import Derived.Test.YtibagcgnaceimaaQ
import Derived.Test.YtibagcgnaceimaaB
namespace Go.Proofs.Ytibagcgnaceimaa
open Go.ChangeShapes Go.WideShapes Go.ChangeAt Go.RowKit
set_option linter.unusedVariables false

theorem NetIs.cellsR {w : World} {F : Nat → Prop} {n : Nat} {most lost : Int} {L : List Dg} (h : NetIs w F n (netR most lost) L) :
    ∃ ao c, w.cell? ⟨n, 2, none⟩ = some (.slice ao L.length c) ∧ w.cell? ⟨n, 1, none⟩ = some (.int .i64 lost) ∧ n < w.heap.size := by
  obtain ⟨v, H, hn, rfl⟩ := h
  obtain ⟨c0, c1, c2, _⟩ := hn.cellsR
  obtain ⟨ao, c, rfl, _⟩ := owns_slice hn.row
  exact ⟨ao, c, by simpa using c0, c2, hn.lt n hn.foot⟩

theorem NetIs.rdR {w : World} {F : Nat → Prop} {n : Nat} {most lost : Int} {L : List Dg} (h : NetIs w F n (netR most lost) L) :
    ∃ ao c, w.cell? ⟨n, 2, none⟩ = some (.slice ao L.length c) ∧ RD w ao L := by
  obtain ⟨v, H, hn, hl⟩ := h
  obtain ⟨ao, c, hv, hr⟩ := DList.rd (base := 0) ⟨hn.row, fun p hp => (hn.dg p hp).1, hn.small⟩ hl
  exact ⟨ao, c, hv ▸ hn.cellsR.1, hr⟩

section
variable (w : World) (F : Nat → Prop) (n : Nat) (most lost : Int) (L : List Dg)

theorem sendU (h : NetIs w F n (netR most lost) L) (d : Dg) (bo : Option Addr) (bc : Nat) (hs : SrcAt w bo d.bs.length bc (u8s d.bs)) (hl : (d.bs.length : Int) ≤ 140737488355328) (hmost : most ≤ 256) (hlost : 0 ≤ lost ∧ lost ≤ 1000000) :
    Calls Try.prog 22 #[.pointer (some ⟨n, 0, none⟩), .agg #[.int .i64 d.fr, .int .i64 d.to, .slice bo d.bs.length bc]] w fun e w' => e = .returned (.bool (fits most L d.bs.length)) ∧
      ∃ F', NetIs w' F' n (netR most (if fits most L d.bs.length then lost else lost + 1)) (if fits most L d.bs.length then L ++ [d] else L) ∧ Chg F F' w w' := by
  obtain ⟨v, H, hn, rfl⟩ := h
  by_cases hf : (H.length : Int) < most ∧ d.bs.length ≤ 1024
  · have e1 : fits most (H.map (·.1)) d.bs.length = true := by simp [fits, hf]
    rw [e1]
    refine (send_yesR w F n most lost v H hn d.fr d.to bo bc d.bs hs hf.1 hmost hf.2).mono ?_
    rintro e w' ⟨rfl, F', v', sv, hn', hc⟩
    exact ⟨rfl, F', ⟨v', _, hn', by simp⟩, hc⟩
  · have e1 : fits most (H.map (·.1)) d.bs.length = false := by simpa [fits] using hf
    rw [e1]
    refine (send_noR w F n most lost v H hn d.fr d.to bo bc d.bs.length (by omega) hl hlost).mono ?_
    rintro e w' ⟨rfl, hn', hc⟩
    exact ⟨rfl, F, ⟨v, H, hn', rfl⟩, hc⟩

theorem peekU (h : NetIs w F n (netR most lost) L) (k : Int) :
    Calls Try.prog 21 #[.pointer (some ⟨n, 0, none⟩), .int .i64 k] w fun e w' => ∃ v', e = .returned (.tuple #[.agg #[.int .i64 (dgAt L k).fr, .int .i64 (dgAt L k).to, v'], .bool (inB L k)]) ∧
      w'.ownsRow 0 5 1 v' (dgAt L k).bs.length (u8s (dgAt L k).bs) ∧ Below w.heap.size w w' := by
  obtain ⟨v, H, hn, rfl⟩ := h
  by_cases hb : 0 ≤ k ∧ k < (H.map (·.1)).length
  · obtain ⟨k, rfl⟩ := Int.eq_ofNat_of_zero_le hb.1
    have hk : k < (H.map (·.1)).length := by omega
    have hk' : k < H.length := by simpa using hk
    rw [inB_in hk, dgAt_in (d := (H[k]).1) (by simp [List.getElem?_eq_getElem hk'])]
    refine (peekR_in w F n most lost v H hn k H[k].1 H[k].2 (List.getElem?_eq_getElem hk')).mono ?_
    rintro e w' ⟨rfl, hbel⟩
    exact ⟨_, rfl, owns_below (hn.dg _ (List.getElem_mem hk')).1 hbel (Nat.le_refl _), hbel⟩
  · rw [inB_out hb, dgAt_out (inB_out hb)]
    refine (peekR_out w F n most lost v H hn k (by simpa using hb)).mono ?_
    rintro e w' ⟨rfl, hbel⟩
    exact ⟨_, rfl, World.ownsRow_nil _ _ _ _, hbel⟩

theorem takeU (h : NetIs w F n (netR most lost) L) (k : Int) (hlen : L.length ≤ 256) :
    Calls Try.prog 19 #[.pointer (some ⟨n, 0, none⟩), .int .i64 k] w fun e w' => ∃ v', e = .returned (.tuple #[.agg #[.int .i64 (dgAt L k).fr, .int .i64 (dgAt L k).to, v'], .bool (inB L k)]) ∧
      w'.ownsRow 0 5 1 v' (dgAt L k).bs.length (u8s (dgAt L k).bs) ∧ ∃ F', NetIs w' F' n (netR most lost) (without L k) ∧ Chg F F' w w' := by
  have hN := h
  obtain ⟨v, H, hn, rfl⟩ := h
  by_cases hb : 0 ≤ k ∧ k < (H.map (·.1)).length
  · obtain ⟨k, rfl⟩ := Int.eq_ofNat_of_zero_le hb.1
    have hk : k < (H.map (·.1)).length := by omega
    have hk' : k < H.length := by simpa using hk
    rw [inB_in hk, dgAt_in (d := (H[k]).1) (by simp [List.getElem?_eq_getElem hk']), ← without_map rfl hk]
    refine (takeR_in w F n most lost v H hn k H[k].1 H[k].2 (List.getElem?_eq_getElem hk') (by simpa using hlen)).mono ?_
    rintro e w' ⟨rfl, hown, F', v', hn', hc⟩
    exact ⟨_, rfl, hown, F', ⟨v', _, hn', rfl⟩, hc⟩
  · have he : without (H.map (·.1)) k = H.map (·.1) := by simp [without, inB_out hb]
    rw [inB_out hb, dgAt_out (inB_out hb), he]
    refine (takeR_out w F n most lost v H hn k (by simpa using hb)).mono ?_
    rintro e w' ⟨rfl, hbel⟩
    exact ⟨_, rfl, World.ownsRow_nil _ _ _ _, F, hN.below hbel (Nat.le_refl _), Chg.of_below hbel (Nat.le_refl _)⟩

theorem doubleU (h : NetIs w F n (netR most lost) L) (k : Int) (hmost : most ≤ 256) :
    Calls Try.prog 20 #[.pointer (some ⟨n, 0, none⟩), .int .i64 k] w fun e w' => e = .returned (.bool (twice most L k)) ∧
      ∃ F', NetIs w' F' n (netR most lost) (if twice most L k then L ++ [dgAt L k] else L) ∧ Chg F F' w w' := by
  have hN := h
  obtain ⟨v, H, hn, rfl⟩ := h
  by_cases hb : 0 ≤ k ∧ k < (H.map (·.1)).length
  · obtain ⟨k, rfl⟩ := Int.eq_ofNat_of_zero_le hb.1
    have hk : k < (H.map (·.1)).length := by omega
    have hk' : k < H.length := by simpa using hk
    by_cases hr : (H.length : Int) < most
    · have e1 : twice most (H.map (·.1)) (k : Int) = true := by simp [twice, inB_in hk, hr]
      rw [e1, dgAt_in (d := (H[k]).1) (by simp [List.getElem?_eq_getElem hk'])]
      refine (doubleR_yes w F n most lost v H hn k H[k].1 H[k].2 (List.getElem?_eq_getElem hk') hr hmost).mono ?_
      rintro e w' ⟨rfl, F', v', sv', hn', hc⟩
      exact ⟨rfl, F', ⟨v', _, hn', by simp⟩, hc⟩
    · have e1 : twice most (H.map (·.1)) (k : Int) = false := by simp [twice]; intro; omega
      rw [e1]
      refine (doubleR_full w F n most lost v H hn k hk' (by omega)).mono ?_
      rintro e w' ⟨rfl, hbel⟩
      exact ⟨rfl, F, hN.below hbel (Nat.le_refl _), Chg.of_below hbel (Nat.le_refl _)⟩
  · have e1 : twice most (H.map (·.1)) k = false := by simp [twice, inB_out hb]
    rw [e1]
    refine (doubleR_out w F n most lost v H hn k (by simpa using hb)).mono ?_
    rintro e w' ⟨rfl, hbel⟩
    exact ⟨rfl, F, hN.below hbel (Nat.le_refl _), Chg.of_below hbel (Nat.le_refl _)⟩
end

/-- Two nets that share nothing: the program's, the reference's. -/
structure Duo (w0 w : World) (F G : Nat → Prop) (n m : Nat) (most lp lr : Int) (LP LR : List Dg) : Prop where
  p : Mine w0 w F n (netP most lp) LP
  r : Mine w0 w G m (netR most lr) LR
  apart : ∀ b, F b → ¬ G b

theorem Mine.other {w0 w w' : World} {F G G' : Nat → Prop} {n : Nat} {B : Value → Obj} {L : List Dg} (h : Mine w0 w F n B L) (hc : Chg G G' w w') (hd : ∀ b, F b → ¬ G b) (hb : Below w0.heap.size w0 w') : Mine w0 w' F n B L :=
  ⟨h.net.other hc hd, hb, h.lo⟩

theorem Duo.stepP {w0 w w' : World} {F F' G : Nat → Prop} {n m : Nat} {most lp lp' lr : Int} {LP LP' LR : List Dg} (h : Duo w0 w F G n m most lp lr LP LR) (hn : NetIs w' F' n (netP most lp') LP') (hc : Chg F F' w w') : Duo w0 w' F' G n m most lp' lr LP' LR :=
  have hp := h.p.step hn hc
  ⟨hp, h.r.other hc (fun b hg hf => h.apart b hf hg) hp.below, fun b hf hg => by
    rcases hc.foot b hf with e | e
    · exact h.apart b e hg
    · have := h.r.net.lt b hg; omega⟩
theorem Duo.stepR {w0 w w' : World} {F G G' : Nat → Prop} {n m : Nat} {most lp lr lr' : Int} {LP LR LR' : List Dg} (h : Duo w0 w F G n m most lp lr LP LR) (hn : NetIs w' G' m (netR most lr') LR') (hc : Chg G G' w w') : Duo w0 w' F G' n m most lp lr' LP LR' :=
  have hr := h.r.step hn hc
  ⟨h.p.other hc h.apart hr.below, hr, fun b hf hg => by
    rcases hc.foot b hg with e | e
    · exact h.apart b hf e
    · have := h.p.net.lt b hf; omega⟩
theorem Duo.still {w0 w w' : World} {F G : Nat → Prop} {n m : Nat} {most lp lr : Int} {LP LR : List Dg} (h : Duo w0 w F G n m most lp lr LP LR) (hb : Below w.heap.size w w') : Duo w0 w' F G n m most lp lr LP LR :=
  ⟨h.p.still hb, h.r.still hb, h.apart⟩
/-- A cell of neither is written. -/
theorem Duo.write {w0 w : World} {F G : Nat → Prop} {n m : Nat} {most lp lr : Int} {LP LR : List Dg} (h : Duo w0 w F G n m most lp lr LP LR) (b j : Nat) (u : Value) (hF : ¬ F b) (hG : ¬ G b) (h0 : w0.heap.size ≤ b) : Duo w0 (w.setCell ⟨b, j, none⟩ u) F G n m most lp lr LP LR :=
  ⟨⟨h.p.net.keep (by simp) (fun c hc => Below.heap_setCell _ _ _ _ (fun e => hF (show F b from by have e : c = b := e; rw [← e]; exact hc))), h.p.below.setCell h0 _, h.p.lo⟩,
   ⟨h.r.net.keep (by simp) (fun c hc => Below.heap_setCell _ _ _ _ (fun e => hG (show G b from by have e : c = b := e; rw [← e]; exact hc))), h.r.below.setCell h0 _, h.r.lo⟩, h.apart⟩

theorem newR_net (w : World) (most : Int) : NetIs (w.alloc (netR most 0 (.slice none 0 0))) (fun b => b = w.heap.size) w.heap.size (netR most 0) [] := ⟨_, _, new_net w (netR most 0), rfl⟩

/-- What stands between two rounds: both nets tell the same. -/
def PlayRel (w0 wr : World) (n m : Nat) (most : Int) (k : Nat) : Prop :=
  ∃ F G L lost, Duo w0 wr F G n m most lost lost L L ∧ 0 ≤ lost ∧ lost ≤ k ∧ (L.length : Int) ≤ most
end Go.Proofs.Ytibagcgnaceimaa
