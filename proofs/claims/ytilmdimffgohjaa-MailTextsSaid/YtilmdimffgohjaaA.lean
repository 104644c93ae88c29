/- The contracts of a box over type 3: Put, Take, Len, Room, New (written by mailbox.py). -/
import Derived.Test.YtilmdimffgohjaaC
import Derived.Conc.LoneSelect
import Derived.Conc.LoneSelectN
import Derived.KernelRfl
namespace Go.Proofs.Ytilmdimffgohjaa
open Go.ChangeShapes Go.WideShapes Go.ChangeAt Go.RowKit Go.Conc
set_option linter.unusedVariables false
set_option maxRecDepth 100000

theorem put_room (x : Value) (w : World) (p c cap : Nat) (buf : List Value) (h : BoxAt w p c cap buf) (hr : buf.length < cap) :
    Calls Try.prog 9 #[.pointer (some ⟨p, 0, none⟩), x] w fun e w' => e = .returned (.bool true) ∧ BoxAt w' p c cap (buf ++ [x]) ∧ w.grownBy w' (some c) := by
  obtain ⟨hp, s, r, hc⟩ := h
  refine calls_of_loneTo fun cs => ?_
  have e : Frame.enter Try.prog 9 #[.pointer (some ⟨p, 0, none⟩), x] .normal = (base 9).at ⟨#[.pointer (some ⟨p, 0, none⟩), x, undef, undef, undef, undef, undef, undef, undef, undef, undef, undef, undef], []⟩ [.code (Try.f9.body.getD .skip)] := by
    simp [Frame.enter, Frame.at, Try.func9, base, Try.f9]
  rw [e]
  refine LoneTo.goes (n := 40) ?_
  simp only [Try.f9, Option.getD_some]
  s_c stepG_seq
  s_reg
  s_op
  s_c stepG_region_end
  s_c stepG_seq
  s_c stepG_seq
  s_reg
  s_op
  s_op
  s_op
  s_op
  s_c stepG_region_end
  s_reg
  s_op
  s_c stepG_region_end
  s_c stepG_seq
  s_reg
  s_stop
  refine LoneTo.step (step_lone_select_send_room (c := c) (cap := cap) (buf := buf.toArray) (s := s) (r := r) (tm := false) (stepG_comm (cases := #[scase c x (.int .i64 0)]) (blocking := false) (shape := .select) (w' := w) rfl rfl (by decide) (by simp [go_sem, execOp, scase, Act.eval])) hc (by simpa using hr)) ?_
  rw [Frame.finish_at]
  walk_nrm
  refine LoneTo.goes (n := 40) ?_
  s_op
  s_op
  s_c stepG_region_end
  s_c stepG_block
  s_cond true
  s_c stepG_seq
  s_reg
  s_op
  s_c stepG_region_end
  s_c stepG_ret'
  s_stop
  refine LoneTo.done ⟨.returned (.bool true), _, rfl, ⟨rfl, ?_, grown_setChan _ _ _ _ _ _ _⟩, rfl, rfl, rfl, rfl, _, Try.func9, by simp [results, Try.f9, Frame.at]⟩
  exact ⟨cell_setChan hp hc _ _ _ _ _, _, _, by rw [heap_setChan _ _ _ _ _ _ _ _ (heap_lt hc)]⟩

theorem put_full (x : Value) (w : World) (p c cap : Nat) (buf : List Value) (h : BoxAt w p c cap buf) (hr : cap ≤ buf.length) :
    Calls Try.prog 9 #[.pointer (some ⟨p, 0, none⟩), x] w fun e w' => e = .returned (.bool false) ∧ w = w' := by
  obtain ⟨hp, s, r, hc⟩ := h
  refine calls_of_loneTo fun cs => ?_
  have e : Frame.enter Try.prog 9 #[.pointer (some ⟨p, 0, none⟩), x] .normal = (base 9).at ⟨#[.pointer (some ⟨p, 0, none⟩), x, undef, undef, undef, undef, undef, undef, undef, undef, undef, undef, undef], []⟩ [.code (Try.f9.body.getD .skip)] := by
    simp [Frame.enter, Frame.at, Try.func9, base, Try.f9]
  rw [e]
  refine LoneTo.goes (n := 40) ?_
  simp only [Try.f9, Option.getD_some]
  s_c stepG_seq
  s_reg
  s_op
  s_c stepG_region_end
  s_c stepG_seq
  s_c stepG_seq
  s_reg
  s_op
  s_op
  s_op
  s_op
  s_c stepG_region_end
  s_reg
  s_op
  s_c stepG_region_end
  s_c stepG_seq
  s_reg
  s_stop
  refine LoneTo.step (step_lone_select_send_full (c := c) (cap := cap) (buf := buf.toArray) (s := s) (r := r) (tm := false) (stepG_comm (cases := #[scase c x (.int .i64 0)]) (blocking := false) (shape := .select) (w' := w) rfl rfl (by decide) (by simp [go_sem, execOp, scase, Act.eval])) hc (by simpa using hr)) ?_
  rw [Frame.finish_at]
  walk_nrm
  refine LoneTo.goes (n := 40) ?_
  s_op
  s_op
  s_c stepG_region_end
  s_c stepG_block
  s_cond false
  s_c stepG_seq
  s_reg
  s_op
  s_c stepG_region_end
  s_c stepG_ret'
  s_stop
  exact LoneTo.done ⟨.returned (.bool false), _, rfl, ⟨rfl, rfl⟩, rfl, rfl, rfl, rfl, _, Try.func9, by simp [results, Try.f9, Frame.at]⟩

theorem take_some (x : Value) (rest : List Value) (w : World) (p c cap : Nat) (h : BoxAt w p c cap (x :: rest)) :
    Calls Try.prog 10 #[.pointer (some ⟨p, 0, none⟩)] w fun e w' => e = .returned (.tuple #[x, .bool true]) ∧ BoxAt w' p c cap rest ∧ w.grownBy w' (some c) := by
  obtain ⟨hp, s, r, hc⟩ := h
  refine calls_of_loneTo fun cs => ?_
  have e : Frame.enter Try.prog 10 #[.pointer (some ⟨p, 0, none⟩)] .normal = (base 10).at ⟨#[.pointer (some ⟨p, 0, none⟩), undef, undef, undef, undef, undef, undef, undef, undef, undef, undef, undef, undef, undef, undef, undef], []⟩ [.code (Try.f10.body.getD .skip)] := by
    simp [Frame.enter, Frame.at, Try.func10, base, Try.f10]
  rw [e]
  refine LoneTo.goes (n := 40) ?_
  simp only [Try.f10, Option.getD_some]
  s_c stepG_seq
  s_reg
  s_op
  s_op
  s_c stepG_region_end
  s_c stepG_seq
  s_reg
  s_op
  s_op
  s_op
  s_op
  s_c stepG_region_end
  s_c stepG_seq
  s_reg
  s_stop
  refine LoneTo.step (step_lone_select_recv_buf (c := c) (cap := cap) (buf := (x :: rest).toArray) (closed := false) (s := s) (r := r) (tm := false) (z := .int .i64 0) (stepG_comm (cases := #[rcase c (.int .i64 0)]) (blocking := false) (shape := .select) (w' := w) rfl rfl (by decide) (by simp [go_sem, execOp, rcase, Act.eval])) hc (by simp)) ?_
  rw [Frame.finish_at]
  walk_nrm
  refine LoneTo.goes (n := 40) ?_
  s_op
  s_op
  s_c stepG_region_end
  s_c stepG_block
  s_cond true
  s_c stepG_seq
  s_reg
  s_op
  s_op
  s_c stepG_region_end
  s_c stepG_seq
  s_reg
  s_op
  s_op
  s_op
  s_c stepG_region_end
  s_c stepG_ret'
  s_stop
  refine LoneTo.done ⟨.returned (.tuple #[x, .bool true]), _, rfl, ⟨rfl, ?_, grown_setChan _ _ _ _ _ _ _⟩, rfl, rfl, rfl, rfl, _, Try.func10, by simp [results, Try.f10, Frame.at]⟩
  exact ⟨cell_setChan hp hc _ _ _ _ _, _, _, by rw [heap_setChan _ _ _ _ _ _ _ _ (heap_lt hc)]; first | done | simp⟩

theorem take_none (w : World) (p c cap : Nat) (h : BoxAt w p c cap []) :
    Calls Try.prog 10 #[.pointer (some ⟨p, 0, none⟩)] w fun e w' => e = .returned (.tuple #[.int .i64 0, .bool false]) ∧ w = w' := by
  obtain ⟨hp, s, r, hc⟩ := h
  refine calls_of_loneTo fun cs => ?_
  have e : Frame.enter Try.prog 10 #[.pointer (some ⟨p, 0, none⟩)] .normal = (base 10).at ⟨#[.pointer (some ⟨p, 0, none⟩), undef, undef, undef, undef, undef, undef, undef, undef, undef, undef, undef, undef, undef, undef, undef], []⟩ [.code (Try.f10.body.getD .skip)] := by
    simp [Frame.enter, Frame.at, Try.func10, base, Try.f10]
  rw [e]
  refine LoneTo.goes (n := 40) ?_
  simp only [Try.f10, Option.getD_some]
  s_c stepG_seq
  s_reg
  s_op
  s_op
  s_c stepG_region_end
  s_c stepG_seq
  s_reg
  s_op
  s_op
  s_op
  s_op
  s_c stepG_region_end
  s_c stepG_seq
  s_reg
  s_stop
  refine LoneTo.step (step_lone_select_default (c := c) (cap := cap) (s := s) (r := r) (tm := false) (z := .int .i64 0) (stepG_comm (cases := #[rcase c (.int .i64 0)]) (blocking := false) (shape := .select) (w' := w) rfl rfl (by decide) (by simp [go_sem, execOp, rcase, Act.eval])) hc) ?_
  rw [Frame.finish_at]
  walk_nrm
  refine LoneTo.goes (n := 40) ?_
  s_op
  s_op
  s_c stepG_region_end
  s_c stepG_block
  s_cond false
  s_c stepG_seq
  s_reg
  s_op
  s_c stepG_region_end
  s_c stepG_seq
  s_reg
  s_op
  s_op
  s_op
  s_c stepG_region_end
  s_c stepG_ret'
  s_stop
  exact LoneTo.done ⟨.returned (.tuple #[.int .i64 0, .bool false]), _, rfl, ⟨rfl, rfl⟩, rfl, rfl, rfl, rfl, _, Try.func10, by simp [results, Try.f10, Frame.at]⟩

theorem len_box (w : World) (p c cap : Nat) (buf : List Value) (h : BoxAt w p c cap buf) :
    Calls Try.prog 11 #[.pointer (some ⟨p, 0, none⟩)] w fun e w' => e = .returned (.int .i64 buf.length) ∧ w = w' := by
  obtain ⟨hp, s, r, hc⟩ := h
  have hl : ∀ ty, (Builtin.len_ #[47] ty #[.chan (some c)]).run Try.prog w = .ok (.int .i64 buf.length) w := fun ty => (run_len_chan 47 ty Try.underlying47 hc).trans (by simp [goInt])
  go_enter Try.func11, Try.ntmps11
  go_wp2_with fail
  go_ret
  exact ⟨rfl, rfl⟩

theorem room_box (w : World) (p c cap : Nat) (buf : List Value) (h : BoxAt w p c cap buf) (hr : buf.length ≤ cap) (hcap : (cap : Int) ≤ 16) :
    Calls Try.prog 19 #[.pointer (some ⟨p, 0, none⟩)] w fun e w' => e = .returned (.int .i64 (cap - buf.length : Nat)) ∧ ∃ q, w.drewN q = w' := by
  obtain ⟨hp, s, r, hc⟩ := h
  have hl : ∀ n ty, (Builtin.len_ #[47] ty #[.chan (some c)]).run Try.prog (w.drewN n) = .ok (.int .i64 buf.length) (w.drewN n) := fun n ty => (run_len_chan (w := w.drewN n) 47 ty Try.underlying47 hc).trans (by simp [goInt])
  have hk : ∀ n ty, (Builtin.cap_ #[47] ty #[.chan (some c)]).run Try.prog (w.drewN n) = .ok (.int .i64 cap) (w.drewN n) := fun n ty => (run_cap_chan (w := w.drewN n) 47 ty Try.underlying47 hc).trans (by simp [goInt])
  have hq : IntKind.i64.wrap ((cap : Int) - (buf.length : Int)) = ((cap - buf.length : Nat) : Int) := by rw [IntWalk.i64_in _ (by omega)]; omega
  go_enter Try.func19, Try.ntmps19
  go_wp2_with fail
  go_quiet (fail)
  go_wp2_with fail
  go_ret
  exact ⟨rfl, _, rfl⟩

theorem bytes3 : ∃ i, Try.prog.info? 3 = some i ∧ i.bytes = 8 := by
  have h : (Try.prog.info? 3).map (·.bytes) = some 8 := by kernel_rfl
  obtain ⟨i, hi, hb⟩ := Option.map_eq_some_iff.1 h
  exact ⟨i, hi, hb⟩

theorem mk_chan (n : Nat) (hn : (n : Int) ≤ 16) (w : World) : (Instr.makeChan 47 (.int .i64 n)).run Try.prog w = .ok (.chan (some w.heap.size)) (w.alloc (.chan n #[] false 0 0 false)) := by
  obtain ⟨i, hi, hb⟩ := bytes3
  exact run_makeChan (P := Try.prog) (w := w) Try.underlying47 hi .i64 n (by omega) (by rw [hb]; omega)

theorem new_box (n : Nat) (w : World) (h1 : (1 : Int) ≤ n) (h2 : (n : Int) ≤ 16) :
    Calls Try.prog 7 #[.int .i64 n] w fun e w' => ∃ p c, e = .returned (.tuple #[.pointer (some ⟨p, 0, none⟩), .int .i64 0]) ∧ BoxAt w' p c n [] ∧ Below w.heap.size w w' ∧ w.heap.size ≤ c ∧ w.heap.size ≤ p := by
  have hmk := mk_chan n h2
  go_enter Try.func7, Try.ntmps7
  go_wp2_with fail
  go_ret2
  exact ⟨_, _, rfl, ⟨by go_simp, 0, 0, (Below.heap_alloc _ _ _ (by simp)).trans (heap_alloc_new _ _)⟩, ((Below.refl _ _).alloc (Nat.le_refl _) _).alloc (by simp) _, Nat.le_refl _, by omega⟩

theorem new_not (n : Int) (w : World) (h : ¬ (1 ≤ n ∧ n ≤ 16)) :
    Calls Try.prog 7 #[.int .i64 n] w fun e w' => e = .returned (.tuple #[.pointer none, .int .i64 1]) ∧ w = w' := by
  by_cases g1 : 1 ≤ n
  · have g2 : 16 < n := by omega
    clear h
    go_enter Try.func7, Try.ntmps7
    go_wp2_with fail
    go_ret2
    exact ⟨rfl, rfl⟩
  · clear h
    go_enter Try.func7, Try.ntmps7
    go_wp2_with fail
    go_ret2
    exact ⟨rfl, rfl⟩
end Go.Proofs.Ytilmdimffgohjaa
