/- The contract of theodolitelaw06.shifted: a vector that is moved. -/
import Derived.Test.YtoglemdooaiddaaKPure2
import Derived.Test.YtoglemdooaiddaaKClone
namespace Go.Proofs.Ytoglemdooaiddaa
open Go.RowKit
set_option linter.unusedVariables false

def shiftTo (by_ v : List Int) (k : Nat) : List Int := (List.range k).map fun i => nth v i + mvN by_ i
theorem shiftTo_all (by_ v : List Int) : shiftTo by_ v v.length = shiftN by_ v := rfl
theorem shiftTo_succ {by_ v : List Int} {k : Nat} {x : Int} (h : mvN by_ k = x) : shiftTo by_ v k ++ [nth v k + x] = shiftTo by_ v (k + 1) := by
  subst h
  simp [shiftTo, List.range_succ]
/-- A move that is made. -/
def MvOk (x : Int) : Prop := -8589934588 < x ∧ x < 8589934588
theorem wrap_mv {a x : Int} (ha : -2147483647 ≤ a ∧ a ≤ 2147483647) (hx : MvOk x) : wrap64 (a + x) = a + x := by
  obtain ⟨h1, h2⟩ := ha
  obtain ⟨h3, h4⟩ := hx
  simp only [wrap64]
  omega
theorem mv_zero : MvOk 0 := by unfold MvOk; omega
theorem mvN_in {by_ : List Int} {k : Nat} (h : k < by_.length) (hx : MvOk (nth by_ k)) : mvN by_ k = nth by_ k := by rw [mvN, if_pos ⟨h, hx.1, hx.2⟩]
theorem mvN_out {by_ : List Int} {k : Nat} (h : ¬ k < by_.length) : mvN by_ k = 0 := by rw [mvN, if_neg (fun hh => h hh.1)]
theorem mvN_low {by_ : List Int} {k : Nat} (h : nth by_ k ≤ -8589934588) : mvN by_ k = 0 := by rw [mvN, if_neg (fun hh => by omega)]
theorem mvN_high {by_ : List Int} {k : Nat} (h : 8589934588 ≤ nth by_ k) : mvN by_ k = 0 := by rw [mvN, if_neg (fun hh => by omega)]

def ShiftPost (w : World) (by_ v : List Int) (e : Ending) (w' : World) : Prop := ∃ g c, e = .returned (.slice (some ⟨g, 0, none⟩) v.length c) ∧ w.heap.size ≤ g ∧ g < w'.heap.size ∧ Row w' (some ⟨g, 0, none⟩) (shiftN by_ v) ∧ Below w.heap.size w w'
set_option maxRecDepth 100000 in
set_option maxHeartbeats 4000000 in
theorem shifted_any (A : Option Addr) (v : List Int) (c : Nat) (B : Option Addr) (by_ : List Int) (d : Nat) (w : World) (hA : Row w A v) (hB : Row w B by_) (h1 : 1 ≤ v.length) (h64 : v.length ≤ 64) (hv : CoordTo v v.length) :
    Calls Try.prog 21 #[.slice A v.length c, .slice B by_.length d] w (ShiftPost w by_ v) := by
  replace hv := Lib.hid hv
  go_enter Try.func21, Try.ntmps21
  go_wp2_with fail
  go_loopw [5, 6] (fun o i wr => ∃ k : Nat, k ≤ v.length ∧ i = .int .i64 (k : Int) ∧ wr.ownsRow w.heap.size 3 1 o k (vals (shiftTo by_ v k)) ∧ Below w.heap.size w wr) (fun _ i _ => v.length - (intOf i).toNat)
  case atStart => exact ⟨0, Nat.zero_le _, rfl, World.ownsRow_nil _ _ _ _, Below.refl _ _⟩
  case round =>
    obtain ⟨k, hk, rfl, HO, HB⟩ := hrel
    by_cases hlt : k < v.length
    · obtain ⟨g, o, rfl, hc⟩ := hA k hlt
      have p0 : (0 : Int) ≤ (k : Int) := by omega
      have p1 : (k : Int) < (v.length : Int) := by omega
      have c1 := below_cell HB hc
      by_cases hb : k < by_.length
      · obtain ⟨g2, o2, rfl, hc2⟩ := hB k hb
        have q1 : (k : Int) < (by_.length : Int) := by omega
        have c2 := below_cell HB hc2
        by_cases x1 : -8589934588 < nth by_ k
        · have t1 : decide (-8589934588 < nth by_ k) = true := decide_eq_true x1
          by_cases x2 : nth by_ k < 8589934588
          · have t2 : decide (nth by_ k < 8589934588) = true := decide_eq_true x2
            have hM : MvOk (nth by_ k) := ⟨x1, x2⟩
            have hE := mvN_in hb hM
            clear x1 x2
            have hw : wrap64 (nth v k + (nth by_ k)) = nth v k + (nth by_ k) := wrap_mv (hv.out k hlt) hM
            have hs := shiftTo_succ (by_ := by_) (v := v) (k := k) hE
            go_wp2_with (at_builtin; refine append_one w.heap.size rfl (.tmp 36) (.tmp 43) _ 3 (.int .i64 0) 8 rfl Try.underlying30 int_info' rfl (by omega) u5 k _ (.int .i64 (nth v k + (nth by_ k))) rfl rfl rfl HO HB.size (by omega) ?_; intro v1 w1 HO1 hg1 hat1)
            rw [vals_snoc, hs] at HO1
            have HB1 := below_of_grown HB hg1 (fun q hq => (own_lt' HO q hq).1)
            exact ⟨⟨k + 1, by omega, by go_num, HO1, HB1⟩, by simp [intOf]; omega⟩
          · have t2 : decide (nth by_ k < 8589934588) = false := decide_eq_false x2
            have hE := mvN_high (by_ := by_) (k := k) (by omega)
            clear x1 x2
            have hw : wrap64 (nth v k) = nth v k := (by have := wrap_mv (hv.out k hlt) mv_zero; rwa [Int.add_zero] at this)
            have hs := shiftTo_succ (by_ := by_) (v := v) (k := k) hE; rw [Int.add_zero] at hs
            go_wp2_with (at_builtin; refine append_one w.heap.size rfl (.tmp 36) (.tmp 43) _ 3 (.int .i64 0) 8 rfl Try.underlying30 int_info' rfl (by omega) u5 k _ (.int .i64 (nth v k)) rfl rfl rfl HO HB.size (by omega) ?_; intro v1 w1 HO1 hg1 hat1)
            rw [vals_snoc, hs] at HO1
            have HB1 := below_of_grown HB hg1 (fun q hq => (own_lt' HO q hq).1)
            exact ⟨⟨k + 1, by omega, by go_num, HO1, HB1⟩, by simp [intOf]; omega⟩
        · have t1 : decide (-8589934588 < nth by_ k) = false := decide_eq_false x1
          have hE := mvN_low (by_ := by_) (k := k) (by omega)
          clear x1
          have hw : wrap64 (nth v k) = nth v k := (by have := wrap_mv (hv.out k hlt) mv_zero; rwa [Int.add_zero] at this)
          have hs := shiftTo_succ (by_ := by_) (v := v) (k := k) hE; rw [Int.add_zero] at hs
          go_wp2_with (at_builtin; refine append_one w.heap.size rfl (.tmp 36) (.tmp 43) _ 3 (.int .i64 0) 8 rfl Try.underlying30 int_info' rfl (by omega) u5 k _ (.int .i64 (nth v k)) rfl rfl rfl HO HB.size (by omega) ?_; intro v1 w1 HO1 hg1 hat1)
          rw [vals_snoc, hs] at HO1
          have HB1 := below_of_grown HB hg1 (fun q hq => (own_lt' HO q hq).1)
          exact ⟨⟨k + 1, by omega, by go_num, HO1, HB1⟩, by simp [intOf]; omega⟩
      · have q1 : (by_.length : Int) ≤ (k : Int) := by omega
        have hE := mvN_out hb
        have hw : wrap64 (nth v k) = nth v k := (by have := wrap_mv (hv.out k hlt) mv_zero; rwa [Int.add_zero] at this)
        have hs := shiftTo_succ (by_ := by_) (v := v) (k := k) hE; rw [Int.add_zero] at hs
        go_wp2_with (at_builtin; refine append_one w.heap.size rfl (.tmp 36) (.tmp 43) _ 3 (.int .i64 0) 8 rfl Try.underlying30 int_info' rfl (by omega) u5 k _ (.int .i64 (nth v k)) rfl rfl rfl HO HB.size (by omega) ?_; intro v1 w1 HO1 hg1 hat1)
        rw [vals_snoc, hs] at HO1
        have HB1 := below_of_grown HB hg1 (fun q hq => (own_lt' HO q hq).1)
        exact ⟨⟨k + 1, by omega, by go_num, HO1, HB1⟩, by simp [intOf]; omega⟩
    · obtain rfl : k = v.length := by omega
      rw [shiftTo_all] at HO
      obtain ⟨g, cap, rfl, g1, g2⟩ := own_shape HO (by omega)
      have hR : Row wr (some ⟨g, 0, none⟩) (shiftN by_ v) := fun x hx => ⟨g, 0, rfl, by rw [Nat.zero_add]; exact own_int HO x (by rwa [shiftN_length] at hx)⟩
      go_wp2_with fail
      go_ret
      exact ⟨g, cap, rfl, g1, g2, hR, HB⟩
end Go.Proofs.Ytoglemdooaiddaa
