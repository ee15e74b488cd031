/- The walks of layer 7: the text of one key. -/
import Derived.Test.YtfgnpplnjgjjkaaDoorKRight
import Derived.Deep.RegionWith
import Derived.BigQuiet
namespace Go.Proofs.YtfgnpplnjgjjkaaDoor.K
open Go.RowKit Go.Proofs.YtfgnpplnjgjjkaaDoorW.PrintWords

set_option maxRecDepth 100000 in
theorem small7 (w : World) : Calls Tryd.prog 69 #[.int .i64 7] w fun e w' => e = .returned (.string ⟨#[55]⟩) ∧ w = w' := by
  go_enter Tryd.func69, Tryd.ntmps69
  go_wp2
  go_ret
  exact ⟨rfl, rfl⟩
set_option maxRecDepth 100000 in
theorem small9 (w : World) : Calls Tryd.prog 69 #[.int .i64 9] w fun e w' => e = .returned (.string ⟨#[57]⟩) ∧ w = w' := by
  go_enter Tryd.func69, Tryd.ntmps69
  go_wp2
  go_ret
  exact ⟨rfl, rfl⟩
theorem word_of (n : Int) (s : ByteArray) (hn : n = 7 ∨ n = 9) (w : World) (h : ∀ w, Calls Tryd.prog 69 #[.int .i64 n] w fun e w' => e = .returned (.string s) ∧ w = w') : Calls Tryd.prog 45 #[.int .i64 n] w fun e w' => e = .returned (.string s) ∧ w = w' := by
  have h57 : ∀ w, Calls Tryd.prog 57 #[.int .i64 n, .int .i64 10] w fun e w' => e = .returned (.string s) ∧ w = w' := fun w => by
    have h := Aside0.mk h
    go_enter Tryd.func57, Tryd.ntmps57
    go_wp2_with (go_at_call 69; refine (h.out _).mono ?_; rintro e w' ⟨rfl, rfl⟩)
    go_ret
    exact ⟨rfl, rfl⟩
  have h49 : ∀ w, Calls Tryd.prog 49 #[.int .i64 n] w fun e w' => e = .returned (.string s) ∧ w = w' := fun w => by
    have h := Aside0.mk h57
    clear h57
    go_enter Tryd.func49, Tryd.ntmps49
    go_wp2_with (go_at_call 57; refine (h.out _).mono ?_; rintro e w' ⟨rfl, rfl⟩)
    go_ret
    exact ⟨rfl, rfl⟩
  have h40 : ∀ w, Calls Tryd.prog 40 #[.int .i64 n] w fun e w' => e = .returned (.string s) ∧ w = w' := fun w => by
    have h := Aside0.mk h49
    clear h57 h49
    go_enter Tryd.func40, Tryd.ntmps40
    go_wp2_with (go_at_call 49; refine (h.out _).mono ?_; rintro e w' ⟨rfl, rfl⟩)
    go_ret
    exact ⟨rfl, rfl⟩
  have h40 := Aside0.mk h40
  have hz : n ≠ 0 := by omega
  clear h57 h49 h hn
  go_enter Tryd.func45, Tryd.ntmps45
  go_wp2_with (go_at_call 40; refine (h40.out _).mono ?_; rintro e w' ⟨rfl, rfl⟩)
  go_ret
  exact ⟨rfl, rfl⟩
theorem word0 (w : World) : Calls Tryd.prog 45 #[.int .i64 0] w fun e w' => e = .returned (.string ⟨#[42]⟩) ∧ w = w' := by
  go_enter Tryd.func45, Tryd.ntmps45
  go_wp2_with fail
  go_ret
  exact ⟨rfl, rfl⟩
end Go.Proofs.YtfgnpplnjgjjkaaDoor.K
