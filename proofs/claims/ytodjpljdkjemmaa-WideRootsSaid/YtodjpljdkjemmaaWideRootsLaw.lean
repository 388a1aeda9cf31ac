/- WideRoots: the walk. -/
import Derived.Test.YtodjpljdkjemmaaWideProductsLaw
import Derived.Deep.RegionHeld3
namespace Go.Proofs.Ytodjpljdkjemmaa
open Go.RowKit
set_option linter.unusedVariables false

theorem wrap_next {r r1 : Nat} (s : Sm r1) (h : r1 = r + 1) : IntKind.u64.wrap ((r : Int) + 1) = (r1 : Int) := by unfold Sm at s; rw [IntKind.wrap_u64]; omega
set_option maxRecDepth 100000 in
set_option maxHeartbeats 4000000 in
theorem wideRoots_any (ah al : Nat) (s1 : Sm ah) (s2 : Sm al) (w : World) :
    Calls Try.prog 5 #[.agg #[.int .u64 (ah : Int), .int .u64 (al : Int)]] w fun e w' => e = .returned (.bool true) ∧ Below w.heap.size w w' := by
  have b0 := Blk.new w 24 #[.int .u64 (ah : Int), .int .u64 (al : Int)]
  have B0 := below_alloc1 w (Obj.cells #[.int .u64 (ah : Int), .int .u64 (al : Int)] 24)
  go_enter Try.func5, Try.ntmps5
  go_wp2_with fail
  generalize w.alloc (Obj.cells #[.int .u64 (ah : Int), .int .u64 (al : Int)] 24) = w0 at *
  refine (sqrt_h ah al s1 s2 _).mono ?_
  rintro e v1 ⟨r, rfl, hr, y1⟩
  have b1 := two_keep b0 y1
  have B1 := below_chain B0 y1 B0.size
  clear b0 B0 y1
  have sr : Sm r := hr.out.1
  obtain ⟨ph, pl, p1, p2, hp⟩ := wh_of (r * r) (sq_lt sr sr)
  replace hp := Lib.hid hp.symm
  have h1 : Hid (decide (wh ah al < wh ph pl) = false) := Lib.hid (by rw [← hp.out]; exact decide_eq_false (Nat.not_lt.2 hr.out.2.1))
  have S0 : Below w.heap.size w v1.drew ∧ v1.drew.cell? ⟨w.heap.size, 0, none⟩ = some (.int .u64 (ah : Int)) ∧ v1.drew.cell? ⟨w.heap.size, 1, none⟩ = some (.int .u64 (al : Int)) := ⟨B1.drew, b1.cell 0, b1.cell 1⟩
  clear b1 B1
  go_wp2_with fail
  go_region_held3 (fun w' => Below w.heap.size w w' ∧ w'.cell? ⟨w.heap.size, 0, none⟩ = some (.int .u64 (ah : Int)) ∧ w'.cell? ⟨w.heap.size, 1, none⟩ = some (.int .u64 (al : Int))) (first | exact two_held (by assumption) hb | exact S0)
    (first | (go_at_call 15; (with_reducible refine (rmul_h r r ph pl sr sr p1 p2 hp.out _).mono ?_); rintro e w' ⟨rfl, hb⟩)
           | (go_at_call 12; (with_reducible refine (less_h ah al ph pl s1 s2 p1 p2 false h1.out _).mono ?_); rintro e w' ⟨rfl, hb⟩))
  rename_i hH
  clear S0 hb
  by_cases htop : r = 18446744073709551615
  · subst htop
    rw [show (((18446744073709551615 : Nat) : Int)) = 18446744073709551615 from rfl]
    clear hp h1 hr
    go_wp2_with fail
    have B5 : Below w.heap.size w (World.drew _) := hH.1.drew
    (first
      | go_region_with (first
          | (go_at_call 13; refine (awake_any _).mono ?_; rintro e x1 ⟨rfl, y1⟩; have U1 := below_chain B5 y1 B5.size))
      | fail)
    all_goals
      go_wp2
      refine bodyPost_ret (v := .bool true) (by simp [results, Try.results5, go_sem]) rfl ?_
      exact ⟨rfl, U1⟩
  · have e1 : ((r : Int) == 18446744073709551615) = false := by simp; omega
    obtain ⟨r1, hr1⟩ : ∃ r1 : Nat, r1 = r + 1 := ⟨_, rfl⟩
    have sr1 : Sm r1 := by unfold Sm at *; omega
    have hw : IntKind.u64.wrap ((r : Int) + 1) = (r1 : Int) := wrap_next sr1 hr1
    obtain ⟨qh, ql, q1, q2, hq⟩ := wh_of (r1 * r1) (sq_lt sr1 sr1)
    replace hq := Lib.hid hq.symm
    have h2 : Hid (decide (wh ah al < wh qh ql) = true) := Lib.hid (by rw [← hq.out, hr1]; exact decide_eq_true hr.out.2.2)
    clear htop hr1
    go_wp2_with fail
    have S0 : Below w.heap.size w (World.drew _) ∧ (World.drew _).cell? ⟨w.heap.size, 0, none⟩ = some (.int .u64 (ah : Int)) ∧ (World.drew _).cell? ⟨w.heap.size, 1, none⟩ = some (.int .u64 (al : Int)) := ⟨hH.1.drew, hH.2.1, hH.2.2⟩
    clear hH
    go_region_held3 (fun w' => Below w.heap.size w w' ∧ w'.cell? ⟨w.heap.size, 0, none⟩ = some (.int .u64 (ah : Int)) ∧ w'.cell? ⟨w.heap.size, 1, none⟩ = some (.int .u64 (al : Int))) (first | exact two_held (by assumption) hb | exact S0)
      (first | (go_at_call 13; refine (awake_any _).mono ?_; rintro e w' ⟨rfl, hb⟩)
             | (go_at_call 15; (with_reducible refine (rmul_h r1 r1 qh ql sr1 sr1 q1 q2 hq.out _).mono ?_); rintro e w' ⟨rfl, hb⟩)
             | (go_at_call 12; (with_reducible refine (less_h ah al qh ql s1 s2 q1 q2 true h2.out _).mono ?_); rintro e w' ⟨rfl, hb⟩))
    rename_i hH
    replace S0 := hH.1
    clear hH
    go_wp2
    go_ret
    exact ⟨rfl, S0⟩
end Go.Proofs.Ytodjpljdkjemmaa
