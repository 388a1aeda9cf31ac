/- The contracts of theodolitelaw10.big and theodolitelaw10.train. -/
import Derived.Test.YtiamppbgpoffmaaPqPlain
namespace Go.Proofs.Ytiamppbgpoffmaa
open Go.RowKit
set_option linter.unusedVariables false

theorem tail_of {P Q : Prop} (h : P → Q) (p : P) : Q := h p
/-- What holds at big's loop's head. -/
def BigI (n k : Nat) (t : Int) : Prop := (k = 0 → t = (n : Int)) ∧ (0 < k → n ≤ 32768)
theorem BigI.bound {n k : Nat} {t : Int} (h : BigI n k t) (ht : t ≤ 32768) : n ≤ 32768 := by
  by_cases h0 : k = 0
  · have := h.1 h0; omega
  · exact h.2 (by omega)
theorem BigI.next {n k : Nat} {t : Int} (h : BigI n k t) (hk : k < n) (ht : t ≤ 32768) : wrap64 ((k : Int) + 1) = ((k + 1 : Nat) : Int) := by
  have := h.bound ht
  simp only [wrap64]
  omega
def BigPost (w : World) (n : Nat) (e : Ending) (w' : World) : Prop := ∃ b : Bool, e = .returned (.bool b) ∧ w = w' ∧ (b = false → n ≤ 32768)
set_option maxRecDepth 200000 in
set_option maxHeartbeats 4000000 in
theorem big_any (A : Option Addr) (l : List (List Int)) (c : Nat) (w : World) (hm : Mat w A l) :
    Calls Try.prog 9 #[.slice A l.length c] w (BigPost w l.length) := by
  go_enter Try.func9, Try.ntmps9
  go_wp2_with fail
  go_loopw [3, 4] (fun n i wr => wr = w ∧ ∃ (k : Nat) (t : Int), k ≤ l.length ∧ i = .int .i64 (k : Int) ∧ n = .int .i64 t ∧ Hid (BigI l.length k t)) (fun _ i _ => l.length - (intOf i).toNat)
  case atStart => exact ⟨rfl, 0, l.length, Nat.zero_le _, rfl, rfl, Lib.hid ⟨fun _ => rfl, fun h => by omega⟩⟩
  case round =>
    obtain ⟨rfl, k, t, hk, rfl, rfl, ht⟩ := hrel
    by_cases hlt : k < l.length
    · have p0 : (0 : Int) ≤ (k : Int) := by omega
      have p1 : (k : Int) < (l.length : Int) := by omega
      by_cases hs : t ≤ 32768
      · have hs1 : decide (t ≤ 32768) = true := decide_eq_true hs
        obtain ⟨g, o, R, rc, rfl, hc1, hR⟩ := hm k hlt
        obtain ⟨k2, hk2⟩ : ∃ k2, k + 1 = k2 := ⟨_, rfl⟩
        have hwk := ht.out.next hlt hs
        have hbd := Lib.hid (ht.out.bound hs)
        rw [hk2] at hwk
        generalize (mrow l k).length = m at *
        obtain ⟨t2, hw⟩ : ∃ t2, wrap64 (t + (m : Int)) = t2 := ⟨_, rfl⟩
        have ht2 : Hid (BigI l.length k2 t2) := Lib.hid ⟨fun h => by omega, fun _ => hbd.out⟩
        clear hs
        go_wp2_with fail
        rw [hwk, hw]
        clear hwk hw
        exact ⟨⟨trivial, k2, t2, by omega, rfl, rfl, ht2⟩, by simp [intOf]; omega⟩
      · have hs2 : 32768 < t := by omega
        clear hs
        go_wp2_with fail
        go_ret
        exact ⟨true, rfl, rfl, fun h => by cases h⟩
    · obtain rfl : k = l.length := by omega
      by_cases hs : t ≤ 32768
      · have hD := Lib.hid (ht.out.bound hs)
        have hs1 : decide (32768 < t) = false := decide_eq_false (by omega)
        clear hs
        go_wp2_with fail
        go_ret
        exact ⟨false, rfl, rfl, fun _ => hD.out⟩
      · have hs2 : 32768 < t := by omega
        clear hs
        go_wp2_with fail
        go_ret
        exact ⟨true, rfl, rfl, fun h => by cases h⟩

/-- A way of training. -/
def howV (dim parts k r s : Int) : Value := .agg #[.int .i64 dim, .int .i64 parts, .int .i64 k, .int .i64 r, .int .u64 s]
theorem tab_some (gp d p n k : Nat) (bs : List (List (List Int))) (V : Option Addr) (v : List Int) (cv : Nat) (w : World) (hB : Cod bs d p n k) (hc : CoderAt w gp d bs) (hV : Row w V v) (hcv : v.length ≤ cv) :
    Calls Try.prog 17 #[.pointer (some ⟨gp, 0, none⟩), .slice V v.length cv] w fun e w' => ∃ (u : Value) (f : Int), e = .returned (.tuple #[u, .int .i64 f]) ∧ Below w.heap.size w w' := by
  by_cases h : vecE v d = 0
  · refine (tab_ok gp d p n k bs V v cv w hB hc hV hcv h).mono ?_
    rintro e w' ⟨g, c, h1, _, h3⟩
    exact ⟨_, _, h1, h3⟩
  · obtain ⟨A, c, c0, _⟩ := hc
    refine (tab_bad gp d V v cv w c0 hV h).mono ?_
    rintro e w' ⟨h1, h3⟩
    exact ⟨_, _, h1, h3⟩
theorem dec_some (gp d p n k : Nat) (bs : List (List (List Int))) (V : Option Addr) (code : List Int) (cv : Nat) (w : World) (hB : Cod bs d p n k) (hc : CoderAt w gp d bs) (hV : Row w V code) :
    Calls Try.prog 15 #[.pointer (some ⟨gp, 0, none⟩), .slice V code.length cv] w fun e w' => ∃ (u : Value) (f : Int), e = .returned (.tuple #[u, .int .i64 f]) ∧ Below w.heap.size w w' := by
  by_cases h : decE bs code = 0
  · refine (dec_ok gp d p n k bs V code cv w hB hc hV h).mono ?_
    rintro e w' ⟨g, c, h1, _, _, h3⟩
    exact ⟨_, _, h1, h3⟩
  · refine (dec_any gp d p n k bs V code cv w hB hc hV h).mono ?_
    rintro e w' ⟨h1, h3⟩
    exact ⟨_, _, h1, h3⟩
theorem ltrain_bad (A : Option Addr) (l : List (List Int)) (cl : Nat) (dim parts k r s : Int) (w : World) (hm : Mat w A l) (h : pqE l dim parts k r ≠ 0) :
    Calls Try.prog 10 #[.slice A l.length cl, .agg #[.int .i64 dim, .int .i64 parts, .int .i64 k, .int .i64 r, .int .u64 s]] w (PqBad w (pqE l dim parts k r)) := by
  have hb1 := below_alloc1 w (.cells #[.int .i64 dim, .int .i64 parts, .int .i64 k, .int .i64 r, .int .u64 s] 25)
  have hT := Lib.hid (pq_bad A l cl dim parts k r s _ (hm.below hb1) h)
  generalize pqE l dim parts k r = E at *
  clear h
  go_enter Try.func10, Try.ntmps10
  go_wp2_with fail
  refine hT.out.mono ?_
  rintro e w2 ⟨rfl, hb⟩
  go_wp2_with fail
  go_ret2
  exact ⟨rfl, below_chain hb1 hb hb1.size⟩
theorem ltrain_good (A : Option Addr) (l : List (List Int)) (cl : Nat) (dim parts k r s : Int) (w : World) (hm : MatC w A l) (h : pqE l dim parts k r = 0) :
    Calls Try.prog 10 #[.slice A l.length cl, .agg #[.int .i64 dim, .int .i64 parts, .int .i64 k, .int .i64 r, .int .u64 s]] w (PqGood w dim.toNat (booksN l (dim.toNat / parts.toNat) parts.toNat k.toNat r.toNat s)) := by
  have hb1 := below_alloc1 w (.cells #[.int .i64 dim, .int .i64 parts, .int .i64 k, .int .i64 r, .int .u64 s] 25)
  have hT := Lib.hid (pq_good A l cl dim parts k r s _ (hm.below hb1) h)
  generalize booksN l (dim.toNat / parts.toNat) parts.toNat k.toNat r.toNat s = bs at *
  generalize hd : dim.toNat = d at *
  clear h hd
  go_enter Try.func10, Try.ntmps10
  go_wp2_with fail
  refine hT.out.mono ?_
  rintro e w2 ⟨gp, rfl, hC, hg, hb⟩
  have hsz := hb1.size
  go_wp2_with fail
  go_ret2
  exact ⟨gp, rfl, hC, by omega, below_chain hb1 hb hb1.size⟩
end Go.Proofs.Ytiamppbgpoffmaa
