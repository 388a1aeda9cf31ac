
import Derived.Test.YtoglemdooaiddaaRandAk
import Derived.Test.YtoglemdooaiddaaOwn
import Derived.Test.YtoglemdooaiddaaRandPlain
import Derived.WalkKit
import Derived.Deep.LoopGhost
namespace Go.Proofs.Ytoglemdooaiddaa
open Go.RowKit

abbrev refT : TypeId := 57

theorem refNext_src (b : Nat) (n : Int) (w : World) (hb : Blk w b refT #[.int .u64 n]) : Calls Try.prog 59 #[.pointer (some ⟨b, 0, none⟩)] w fun e w' => e = .returned (.int .u64 (draw n)) ∧ Blk w' b refT #[.int .u64 (adv n)] ∧ w.grownBy w' (some b) := by
  have hc := hb.cell 0
  have hf := hb.frozen 0
  simp only [List.getElem?_toArray, List.getElem?_cons_zero] at hc
  go_enter Try.func59, Try.ntmps59
  go_wp2
  go_ret
  exact ⟨rfl, hb.set_ 0 _, grown_set w ⟨b, 0, none⟩ _⟩

theorem refNext_some (b : Nat) (n : Int) (w : World) (hb : Blk w b refT #[.int .u64 n]) : Calls Try.prog 59 #[.pointer (some ⟨b, 0, none⟩)] w fun e w' => ∃ D, Hid (draw n = D) ∧ 0 ≤ D ∧ D ≤ 18446744073709551615 ∧ e = .returned (.int .u64 D) ∧ Blk w' b refT #[.int .u64 (adv n)] ∧ w.grownBy w' (some b) :=
  (refNext_src b n w hb).mono fun _ _ ⟨he, h1, h2⟩ => ⟨_, Lib.hid rfl, (draw_range n).1, (draw_range n).2, he, h1, h2⟩

theorem refBelow_bad (a : Addr) (n : Int) (w : World) (h : n < 1 ∨ 1000000000 < n) : Calls Try.prog 51 #[.pointer (some a), .int .i64 n] w fun e w' => e = .returned (.tuple #[.int .i64 0, .int .i64 1]) ∧ w = w' := by
  by_cases h1 : n < 1
  · go_enter Try.func51, Try.ntmps51
    go_wp2
    go_ret2
    exact ⟨rfl, rfl⟩
  · have h2 : 1000000000 < n := by omega
    go_enter Try.func51, Try.ntmps51
    go_wp2
    go_ret2
    exact ⟨rfl, rfl⟩
theorem refBelow_src (b : Nat) (n m : Int) (w : World) (hb : Blk w b refT #[.int .u64 n]) (h1 : 1 ≤ m) (h2 : m ≤ 1000000000) : Calls Try.prog 51 #[.pointer (some ⟨b, 0, none⟩), .int .i64 m] w fun e w' =>
    e = .returned (.tuple #[.int .i64 (draw n % m), .int .i64 0]) ∧ Blk w' b refT #[.int .u64 (adv n)] ∧ w.grownBy w' (some b) := by
  go_enter Try.func51, Try.ntmps51
  go_wp2_with fail
  refine (refNext_some _ _ _ hb).mono ?_
  rintro e w1 ⟨D, hD, hD1, hD2, rfl, b1, f1⟩
  have g1 : 0 ≤ D % m := Int.emod_nonneg _ (by omega)
  have g2 : D % m < m := Int.emod_lt_of_pos _ (by omega)
  go_wp2
  go_ret2
  exact ⟨by rw [hD.out]; rfl, b1, f1⟩

theorem refPerm_bad (a : Addr) (n : Int) (w : World) (h : n < 0 ∨ 65536 < n) : Calls Try.prog 33 #[.pointer (some a), .int .i64 n] w fun e w' => e = .returned (.tuple #[.slice none 0 0, .int .i64 1]) ∧ w = w' := by
  by_cases h1 : n < 0
  · go_enter Try.func33, Try.ntmps33
    go_wp2
    go_ret2
    exact ⟨rfl, rfl⟩
  · have h2 : 65536 < n := by omega
    go_enter Try.func33, Try.ntmps33
    go_wp2
    go_ret2
    exact ⟨rfl, rfl⟩

theorem int_info : (Try.prog.info? 3).map (fun i => (i.zero, i.size, i.bytes)) = some (some (.int .i64 0), 1, 8) := by kernel_rfl

/-- What lies behind the document's Perm: some slice that reads as the list; the state; of what was there the source alone has turned. -/
def RefPermPost (w : World) (b : Nat) (s : Int) (n : Nat) (e : Ending) (w' : World) : Prop := ∃ A c,
      e = .returned (.tuple #[.slice A n c, .int .i64 0]) ∧ Row w' A (permOf s n).1 ∧ Blk w' b refT #[.int .u64 (permOf s n).2] ∧ w.grownBy w' (some b)

set_option maxRecDepth 100000 in
set_option maxHeartbeats 2000000 in
theorem refPerm_src (b : Nat) (s : Int) (n : Nat) (w : World) (hb : Blk w b refT #[.int .u64 s]) (hn : n ≤ 65536) :
    Calls Try.prog 33 #[.pointer (some ⟨b, 0, none⟩), .int .i64 n] w (RefPermPost w b s n) := by
  have n0 : (0 : Int) ≤ (n : Int) := by omega
  have n1 : (n : Int) ≤ 65536 := by omega
  go_enter Try.func33, Try.ntmps33
  go_wp2
  go_loopw [6, 7] (fun v i wr => ∃ k : Nat, k ≤ n ∧ i = .int .i64 k ∧ wr.ownsRow w.heap.size 3 1 v k (vals (iota k)) ∧ Below w.heap.size w wr) (fun _ i _ => n - (intOf i).toNat)
  case atStart => exact ⟨0, Nat.zero_le _, rfl, World.ownsRow_nil _ _ _ _, Below.refl _ _⟩
  case round =>
    obtain ⟨k, hk, rfl, HO, HB⟩ := hrel
    by_cases hlt : k < n
    · go_wp2_with (at_builtin; refine append_one w.heap.size rfl (.tmp 23) (.tmp 25) _ 3 (.int .i64 0) 8 rfl Try.underlying30 int_info rfl (by omega) u6 k _ (.int .i64 k) rfl rfl rfl HO HB.size (by omega) ?_; intro v1 w1 HO1 hg1 hat1)
      rw [vals_snoc, iota_snoc] at HO1
      have HB1 := below_of_grown HB hg1 (fun k hk => (own_lt' HO k hk).1)
      exact ⟨⟨k + 1, by omega, by go_num, HO1, HB1⟩, by simp [intOf]; omega⟩
    · obtain rfl : k = n := by omega
      have b1 := hb.below HB hb.lt
      have f1 : Hid (w.grownBy wr (some b)) := Lib.hid ⟨HB.os, HB.tape, HB.output, HB.size, fun i hi _ => HB.block i hi⟩
      rcases Nat.eq_zero_or_pos k with h0 | h0
      · subst h0
        have hP : permOf s 0 = ([], s) := rfl
        have hP' := Lib.hid hP
        clear hP
        obtain ⟨A, c, rfl, hR⟩ := own_row (l := iota 0) HO
        go_wp2
        go_loop [8] (fun i => i = .int .i64 (-1)) (fun _ => 0)
        case atStart => rfl
        case round =>
          subst hrel
          go_wp2
          go_ret2
          refine ⟨A, c, rfl, ?_, ?_, f1.out⟩
          · rw [hP'.out]; exact Row.nil_
          · rw [hP'.out]; exact b1
      · obtain ⟨g, cap, rfl, hg0, hg1⟩ := own_shape HO h0
        have hlb := hb.lt
        go_wp2
        go_loopw [8] (fun i wr => ∃ (j : Int) (s' : Int) (l : List Int), 0 ≤ j ∧ j < k ∧ i = .int .i64 j ∧ l.length = k ∧ wr.ownsRow w.heap.size 3 1 (.slice (some ⟨g, 0, none⟩) k cap) k (vals l) ∧ Blk wr b refT #[.int .u64 s'] ∧ w.grownBy wr (some b) ∧ Hid (permLoop j.toNat s' l = permLoop (k - 1) s (iota k))) (fun i _ => (intOf i).toNat)
        case atStart => exact ⟨(k : Int) - 1, s, iota k, by omega, by omega, rfl, iota_length k, HO, b1, f1.out, Lib.hid (by congr 1; omega)⟩
        case round =>
          clear HO HB b1 f1
          obtain ⟨j, s', l, hj0, hj1, rfl, hlen, HO, b2, f2, hH⟩ := hrel
          by_cases hlt : 1 ≤ j
          · obtain ⟨t, ht⟩ : ∃ t, draw s' % (j + 1) = t := ⟨_, rfl⟩
            have t0 : 0 ≤ t := by rw [← ht]; exact Int.emod_nonneg _ (by omega)
            have t1 : t < j + 1 := by rw [← ht]; exact Int.emod_lt_of_pos _ (by omega)
            have ht' := Lib.hid ht
            clear ht
            have hlen' := Lib.hid hlen
            clear hlen
            go_wp2_with fail
            refine (refBelow_src _ _ _ _ b2 (by omega) (by omega)).mono ?_
            rintro e w3 ⟨rfl, b3, f3⟩
            rw [ht'.out]
            have HO3 := HO.kept f3 (by simp [Value.ownBlock]; omega)
            have f4 : w.grownBy w3 (some b) := World.grownBy.trans f2 f3
            have c1 := own_int HO3 j.toNat (by omega)
            have c2 := own_int HO3 t.toNat (by omega)
            have z1 := HO3.frozenAt j.toNat
            have z2 := HO3.frozenAt t.toNat
            have HO4 := own_set HO3 j.toNat (nth l t.toNat)
            have c3 := own_int HO4 t.toNat (by omega)
            have HO5 := own_set HO4 t.toNat (nth l j.toNat)
            clear HO HO3 HO4 f2 f3 b2
            go_wp2
            have hH' : Hid (permLoop (j - 1).toNat (adv s') (swapL l j.toNat t.toNat) = permLoop (k - 1) s (iota k)) := by
              rw [← ht'.out, ← permLoop_step j hlt]; exact hH
            exact ⟨⟨j - 1, adv s', swapL l j.toNat t.toNat, by omega, by omega, rfl, by rw [swapL_length]; exact hlen'.out, HO5, (b3.far (by simp; omega) _).far (by simp; omega) _, grown_new_set (grown_new_set f4 (by simp; omega) _) (by simp; omega) _, hH'⟩, by simp [intOf]; omega⟩
          · have hj : j.toNat = 0 := by omega
            have h := hH.out
            rw [hj, permLoop] at h
            have hR : Row wr (some ⟨g, 0, none⟩) l := fun i hi => ⟨g, 0, rfl, by rw [Nat.zero_add]; exact own_int HO i (by omega)⟩
            have h' := Lib.hid h
            clear h hH
            go_wp2
            go_ret2
            refine ⟨some ⟨g, 0, none⟩, cap, rfl, ?_, ?_, f2⟩
            · have : permOf s k = (l, s') := by rw [permOf]; exact h'.out.symm
              rw [this]
              exact hR
            · have : permOf s k = (l, s') := by rw [permOf]; exact h'.out.symm
              rw [this]
              exact b2
end Go.Proofs.Ytoglemdooaiddaa
