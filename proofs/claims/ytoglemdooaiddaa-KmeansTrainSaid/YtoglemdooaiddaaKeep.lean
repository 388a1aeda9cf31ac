/- The contracts of theodolitekeep's Ints, Lend and Back. -/
import Derived.Test.YtoglemdooaiddaaProg
import Derived.Test.YtoglemdooaiddaaCopy
import Derived.WalkKit
import Derived.Deep.LoopGhost
import Derived.Deep.QuietTactic
import Derived.BigQuiet
namespace Go.Proofs.Ytoglemdooaiddaa
open Go.RowKit

/-- The first k numbers of two lists are the same. -/
def SameTo (k : Nat) (a b : List Int) : Prop := ∀ j, j < k → nth a j = nth b j
theorem SameTo.succ {k : Nat} {a b : List Int} (h : SameTo k a b) (e : nth a k = nth b k) : SameTo (k + 1) a b := fun j hj => by
  by_cases hk : j = k
  · subst hk; exact e
  · exact h j (by omega)
theorem SameTo.all {a b : List Int} (hl : a.length = b.length) (h : SameTo a.length a b) : a = b := by
  apply List.ext_getElem hl
  intro i h1 h2
  have := h i h1
  simpa [nth, h1, h2] using this

set_option maxHeartbeats 1000000 in
theorem ints_any (A B : Option Addr) (a b : List Int) (c d : Nat) (w : World) (ha : Row w A a) (hb : Row w B b) (hla : a.length ≤ 9223372036854775807) :
    Calls Try.prog 22 #[.slice A a.length c, .slice B b.length d] w fun e w' => e = .returned (.bool (decide (a = b))) ∧ Drawn w w' := by
  by_cases hl : a.length = b.length
  · have hne : ((a.length : Int) != (b.length : Int)) = false := by simp [hl]
    have hl' := Lib.hid hl
    clear hl
    go_enter Try.func22, Try.ntmps22
    go_wp2
    clear hne
    go_loopw [5] (fun i wr => ∃ k : Nat, k ≤ a.length ∧ i = .int .i64 k ∧ SameTo k a b ∧ Drawn w wr) (fun i _ => a.length - (intOf i).toNat)
    case atStart => exact ⟨0, Nat.zero_le _, rfl, fun j hj => absurd hj (by omega), Drawn.refl _⟩
    case round =>
      obtain ⟨k, hk, rfl, hS, hD⟩ := hrel
      by_cases hlt : k < a.length
      · have hltb : k < b.length := by have := hl'.out; omega
        obtain ⟨q, rfl⟩ := hD
        obtain ⟨g1, o1, rfl, hc1⟩ := ha k hlt
        obtain ⟨g2, o2, rfl, hc2⟩ := hb k hltb
        have p0 : (0 : Int) ≤ (k : Int) := by omega
        have p1 : (k : Int) < (a.length : Int) := by omega
        have p2 : (k : Int) < (b.length : Int) := by omega
        by_cases he : nth a k = nth b k
        · have hne : (nth a k != nth b k) = false := by simpa using he
          have hS' := hS.succ he
          clear he
          go_wp2
          go_quiet (fail)
          go_wp2
          exact ⟨⟨k + 1, by omega, by go_num, hS', q + nq, rfl⟩, by simp [intOf]; omega⟩
        · have hne : (nth a k != nth b k) = true := by simpa using he
          have hno : a ≠ b := fun e => he (by rw [e])
          clear he
          go_wp2
          go_quiet (fail)
          go_wp2
          go_ret
          exact ⟨by rw [decide_eq_false hno]; rfl, q + nq, (World.drewN_drewN ..)⟩
      · obtain rfl : k = a.length := by omega
        go_wp2
        go_ret
        exact ⟨by rw [decide_eq_true (SameTo.all hl'.out hS)]; rfl, hD⟩
  · have hne : ((a.length : Int) != (b.length : Int)) = true := by simp; omega
    go_enter Try.func22, Try.ntmps22
    go_wp2
    go_ret
    exact ⟨by rw [decide_eq_false (fun e => hl (by rw [e]))]; rfl, Drawn.refl _⟩


theorem int_size : (Try.prog.info? 3).map (·.size) = some 1 := by kernel_rfl
def LentPost (w : World) (l : List Int) (e : Ending) (w' : World) : Prop :=
  e = .returned (.slice (some ⟨w.heap.size, 0, none⟩) l.length (l.length + 1)) ∧ Blk w' w.heap.size 3 (ints (l ++ [-77])) ∧ Below w.heap.size w w'
set_option maxHeartbeats 1000000 in
theorem lend_any (A : Option Addr) (l : List Int) (c : Nat) (w : World) (h : Row w A l) (hl : l.length ≤ 65536) :
    Calls Try.prog 23 #[.slice A l.length c] w (LentPost w l) := by
  have p0 : (0 : Int) ≤ (l.length : Int) := by omega
  have p1 : (l.length : Int) ≤ 65536 := by omega
  have hm := run_make_ints (P := Try.prog) 30 3 Try.underlying30 (by kernel_rfl) (l.length + 1) (by omega) w
  rw [Int.natCast_add, show ((1 : Nat) : Int) = 1 from rfl] at hm
  go_enter Try.func23, Try.ntmps23
  go_wp2_with (with_reducible show wpList _ _ _ (Oper.mk _ (Op.call (Call.mk (Callee.builtin Builtin.copy) _ _)) _ _ _ _ :: _) _ _; refine copy_ints rfl (.tmp 8) (.tmp 9) 30 30 rfl 3 Try.underlying30 int_size A (l.length + 1) (l.length + 1) c (List.replicate (l.length + 1) 0) l w.heap.size rfl rfl 3 (Blk.new _ _ _) (h.below ((Below.refl _ _).alloc (Nat.le_refl _) _)) (by omega) (by simp) ?_; intro w1 hb1 hg1 hz1; have hf1 := hb1.frozen l.length; have hc1 := hb1.int _ l.length (by simp))
  go_ret
  have hl1 : (l ++ List.drop l.length (List.replicate (l.length + 1) (0 : Int))).set l.length (-77) = l ++ [-77] := by simp
  exact ⟨rfl, hl1 ▸ hb1.setInt l.length (-77), (((Below.refl _ _).alloc (Nat.le_refl _) _).grown hg1 (by simp) (by simp)).setCell (by simp) _⟩

theorem row_part {w : World} {g : Nat} {t : TypeId} {l : List Int} {x : Int} (h : Blk w g t (ints (l ++ [x]))) : Row w (some ⟨g, 0, none⟩) l := fun j hj =>
  ⟨g, 0, rfl, by rw [Nat.zero_add, h.nth j (by simp; omega)]; simp [nth, List.getElem?_append_left hj]⟩

theorem grown_trans {a b c : World} {r : Option Nat} (h : a.grownBy b r) (k : b.grownBy c r) : a.grownBy c r :=
  ⟨k.os.trans h.os, k.tape.trans h.tape, k.output.trans h.output, Nat.le_trans h.size k.size, fun i hi hne => (k.block i (Nat.lt_of_lt_of_le hi h.size) hne).trans (h.block i hi hne)⟩
def BackPost (w : World) (g : Nat) (e : Ending) (w' : World) : Prop := e = .returned (.bool true) ∧ w.grownBy w' (some g)
set_option maxHeartbeats 1000000 in
theorem back_any (g : Nat) (B : Option Addr) (l : List Int) (c : Nat) (w : World) (hb : Blk w g 3 (ints (l ++ [-77]))) (h : Row w B l) (hl : l.length ≤ 65536) :
    Calls Try.prog 31 #[.slice (some ⟨g, 0, none⟩) l.length (l.length + 1), .slice B l.length c] w (BackPost w g) := by
  have p0 : (0 : Int) ≤ (l.length : Int) := by omega
  have p1 : (l.length : Int) ≤ 65536 := by omega
  have hc := hb.int _ l.length (by simp)
  have he : (l ++ [-77]).getD l.length 0 = -77 := by simp
  rw [he] at hc
  clear he
  go_enter Try.func31, Try.ntmps31
  go_wp2_with (go_at_call 22; refine (ints_any _ B l l _ _ _ (row_part hb) h (by omega)).mono ?_; rintro e w1 ⟨rfl, ⟨n, rfl⟩⟩; rw [decide_eq_true rfl])
  go_loopw [6] (fun i wr => ∃ (k : Nat) (L : List Int), k ≤ l.length + 1 ∧ i = .int .i64 (k : Int) ∧ L.length = l.length + 1 ∧ Blk wr g 3 (ints L) ∧ w.grownBy wr (some g)) (fun i _ => l.length + 1 - (intOf i).toNat)
  case atStart => exact ⟨0, l ++ [-77], Nat.zero_le _, rfl, by simp, hb.drawn ⟨n, rfl⟩, grown_drawn (grown_refl w _) ⟨n, rfl⟩⟩
  case round =>
    obtain ⟨k, L, hk, rfl, hL, hB, hG⟩ := hrel
    by_cases hlt : k < l.length + 1
    · have q0 : (0 : Int) ≤ (k : Int) := by omega
      have q1 : (k : Int) < (l.length : Int) + 1 := by omega
      have hcx := hB.nth k (by omega)
      have hfx := hB.frozen k
      have hL' := Lib.hid hL
      clear hL
      go_wp2
      exact ⟨⟨k + 1, _, by omega, by go_num, by rw [List.length_set]; exact hL'.out, hB.setInt k _, grown_trans hG (grown_set _ _ _)⟩, by simp [intOf]; omega⟩
    · obtain rfl : k = l.length + 1 := by omega
      go_wp2
      go_ret
      exact ⟨rfl, hG⟩
end Go.Proofs.Ytoglemdooaiddaa
