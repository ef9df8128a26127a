/- The channel of a post: enter (21). -/
import Derived.Test.YtjhjbgdekpegdaaW1
import Derived.Test.YtjhjbgdekpegdaaKtC
namespace Go.Proofs.Ytjhjbgdekpegdaa
open Go.RowKit Go.Kt Go.Conc

set_option maxHeartbeats 1000000 in
theorem enter_yes (pb c room s r : Nat) (lv : Value) (buf : Array Value) (w : World) (hb : Blk w pb #[.chan (some c), lv] 57) (hc : w.heap[c]? = some (.chan room buf false s r false)) (hr : buf.size < room) :
    Calls Try.prog 21 #[.pointer (some ⟨pb, 0, none⟩)] w fun e w' => e = .returned (.bool true) ∧ w' = w.setChan c room (buf.push (.agg #[])) false (s + 1) r false := by
  have k0 : w.cell? ⟨pb, 0, none⟩ = some (.chan (some c)) := hb.cell 0
  have Hc := Lib.hid hc
  have Hr := Lib.hid hr
  clear hb hc hr
  go_enter Try.func21, Try.ntmps21
  go_upto_region 3 with (fail)
  refine WpL.region ?_
  refine WpL.comm (cases := #[scase c (.agg #[]) (.agg #[])]) (blocking := false) (shape := .select) (w' := w) rfl rfl (by simp [go_sem, execOp, scase, Act.eval]) (fun fr cs es h => step_lone_select_send_room h Hc.out Hr.out) ?_
  refine WpL.value rfl rfl (by simp [go_sem, execOp, Act.eval, Act.put]; exact ⟨rfl, rfl⟩) ?_
  refine WpL.value rfl rfl (by simp [go_sem, execOp, Act.eval, Act.put]; exact ⟨rfl, rfl⟩) ?_
  refine WpL.nil ?_
  go_wp2_with fail
  go_ret
  exact ⟨rfl, rfl⟩
set_option maxHeartbeats 1000000 in
theorem enter_no (pb c room s r : Nat) (lv : Value) (buf : Array Value) (w : World) (hb : Blk w pb #[.chan (some c), lv] 57) (hc : w.heap[c]? = some (.chan room buf false s r false)) (hr : room ≤ buf.size) :
    Calls Try.prog 21 #[.pointer (some ⟨pb, 0, none⟩)] w fun e w' => e = .returned (.bool false) ∧ w' = w := by
  have k0 : w.cell? ⟨pb, 0, none⟩ = some (.chan (some c)) := hb.cell 0
  have Hc := Lib.hid hc
  have Hr := Lib.hid hr
  clear hb hc hr
  go_enter Try.func21, Try.ntmps21
  go_upto_region 3 with (fail)
  refine WpL.region ?_
  refine WpL.comm (cases := #[scase c (.agg #[]) (.agg #[])]) (blocking := false) (shape := .select) (w' := w) rfl rfl (by simp [go_sem, execOp, scase, Act.eval]) (fun fr cs es h => step_lone_select_send_full h Hc.out Hr.out) ?_
  refine WpL.value rfl rfl (by simp [go_sem, execOp, Act.eval, Act.put]; exact ⟨rfl, rfl⟩) ?_
  refine WpL.value rfl rfl (by simp [go_sem, execOp, Act.eval, Act.put]; exact ⟨rfl, rfl⟩) ?_
  refine WpL.nil ?_
  go_wp2_with fail
  go_ret
  exact ⟨rfl, rfl⟩
end Go.Proofs.Ytjhjbgdekpegdaa
