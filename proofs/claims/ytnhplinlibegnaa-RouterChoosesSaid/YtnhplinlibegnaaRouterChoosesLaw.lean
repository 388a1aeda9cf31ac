/- RouterChooses: the walk. -/
import Derived.Test.YtnhplinlibegnaaSpecs
import Derived.Test.YtnhplinlibegnaaRefChoose
namespace Go.Proofs.Ytnhplinlibegnaa
open Go.RowKit

set_option maxRecDepth 100000 in
theorem routerChooses_long (A : Option Addr) (l : List Sp) (cap : Nat) (r d k m : Int) (w : World) (hl : 65536 < l.length) :
    Calls Try.prog 4 #[.slice A l.length cap, .int .i64 r, .int .i64 d, .int .i64 k, .int .i64 m] w fun e w' => e = .returned (.bool true) ∧ Below w.heap.size w w' := by
  have p0 : (65536 : Int) < (l.length : Int) := by omega
  go_enter Try.func4, Try.ntmps4
  go_wp2_with fail
  go_ret
  exact ⟨rfl, Below.refl _ _⟩

set_option maxRecDepth 100000 in
set_option maxHeartbeats 2000000 in
theorem routerChooses_any (A : Option Addr) (l : List Sp) (cap : Nat) (r d k m : Int) (w : World) (h : Specs w A l) :
    Calls Try.prog 4 #[.slice A l.length cap, .int .i64 r, .int .i64 d, .int .i64 k, .int .i64 m] w fun e w' => e = .returned (.bool true) ∧ Below w.heap.size w w' := by
  by_cases hl : 65536 < l.length
  · exact routerChooses_long A l cap r d k m w hl
  have p0 : (l.length : Int) ≤ 65536 := by omega
  have p1 : (0 : Int) ≤ (l.length : Int) := by omega
  have hm := run_make_specs l.length (by omega) w
  clear hl
  go_enter Try.func4, Try.ntmps4
  go_wp2_with first | (with_reducible show wpList _ _ _ (Oper.mk _ (Op.call (Call.mk (Callee.builtin Builtin.copy) _ _)) _ _ _ _ :: _) _ _; refine copy_specs rfl (.tmp 23) (.tmp 24) 30 30 rfl 24 Try.underlying30 spec_size A cap l w.heap.size (madeCells #[.int .i64 0, .int .i64 0, .int .i64 0, .int .i64 0] (l.length * 4)) rfl rfl 24 (Blk.new _ _ _) (h.below ((Below.refl _ _).alloc (Nat.le_refl _) _)) (size_madeCells _ _) ?_; intro w1 hb1 hg1 hz1)
  have B1 := ((Below.refl w.heap.size w).alloc (Nat.le_refl _) _).grown hg1 (by simp) (by simp)
  clear hg1 hz1
  have ho1 : Specs w1 (some ⟨w.heap.size, 0, none⟩) l := Specs.of_blk (rest := []) (by rwa [List.append_nil])
  have hlt := hb1.lt
  refine (choose_any _ l l.length r d k m _ ho1).mono ?_
  rintro e w2 ⟨rfl, b2⟩
  have ho2 := ho1.below b2
  have B2 := below_chain B1 b2 B1.size
  clear b2 B1 ho1 hb1
  go_wp2_with fail
  refine (rchoose_any A l cap r d k m _ (h.below B2)).mono ?_
  rintro e w3 ⟨rfl, b3⟩
  have ho3 := ho2.below b3
  have B3 := below_chain B2 b3 B2.size
  have h3 := h.below B3
  clear b3 B2 ho2
  generalize hV : chooseV l r d k m = V
  generalize hE : chooseE l r d k m = E
  clear hV hE
  go_wp2_with fail
  go_loopw [16] (fun i wr => ∃ q : Nat, q ≤ l.length ∧ i = .int .i64 (q : Int) ∧ Drawn w3 wr) (fun i _ => l.length - (intOf i).toNat)
  case atStart => exact ⟨0, Nat.zero_le _, rfl, Drawn.refl _⟩
  case round =>
    obtain ⟨q, hq, rfl, ⟨n, rfl⟩⟩ := hrel
    by_cases hlt : q < l.length
    · obtain ⟨g, off, rfl, c0, c1, c2, c3⟩ := h3 q hlt
      obtain ⟨g', off', he, o0, o1, o2, o3⟩ := ho3 q hlt
      obtain ⟨rfl, rfl⟩ : w.heap.size = g' ∧ 0 = off' := by simpa using he
      clear he
      rw [Nat.zero_add] at o0 o1 o2 o3
      have q0 : (0 : Int) ≤ (q : Int) := by omega
      have q1 : (q : Int) < (l.length : Int) := by omega
      go_wp2
      go_quiet (fail)
      go_wp2
      exact ⟨⟨q + 1, by omega, by go_num, n + nq, rfl⟩, by simp [intOf]; omega⟩
    · obtain rfl : q = l.length := by omega
      go_wp2_with fail
      refine (awake_any _).mono ?_
      rintro e w4 ⟨rfl, b4⟩
      go_wp2
      go_ret
      exact ⟨rfl, below_chain (below_drewN B3 n) b4 B3.size⟩
end Go.Proofs.Ytnhplinlibegnaa
