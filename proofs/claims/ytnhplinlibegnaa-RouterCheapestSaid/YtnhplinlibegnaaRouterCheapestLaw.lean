/- RouterCheapest: the walk. -/
import Derived.Test.YtnhplinlibegnaaCheapPure
namespace Go.Proofs.Ytnhplinlibegnaa
open Go.RowKit
set_option linter.unusedVariables false

set_option maxRecDepth 100000 in
theorem routerCheapest_long (A : Option Addr) (l : List Sp) (cap : Nat) (s : Sp) (r d : Int) (w : World) (hl : 65536 < l.length) :
    Calls Try.prog 6 #[.slice A l.length cap, .agg #[.int .i64 s.k, .int .i64 s.a, .int .i64 s.b, .int .i64 s.c], .int .i64 r, .int .i64 d] w fun e w' => e = .returned (.bool true) ∧ Below w.heap.size w w' := by
  have p0 : (65536 : Int) < (l.length : Int) := by omega
  go_enter Try.func6, Try.ntmps6
  go_wp2_with fail
  go_ret
  exact ⟨rfl, (Below.refl _ _).alloc (Nat.le_refl _) _⟩

set_option maxRecDepth 100000 in
theorem routerCheapest_none (A : Option Addr) (l : List Sp) (cap : Nat) (s : Sp) (r d : Int) (w : World) (hl : l.length ≤ 65536) (h : Specs w A l) (hE : chooseE l r d 1 2 ≠ 0) :
    Calls Try.prog 6 #[.slice A l.length cap, .agg #[.int .i64 s.k, .int .i64 s.a, .int .i64 s.b, .int .i64 s.c], .int .i64 r, .int .i64 d] w fun e w' => e = .returned (.bool true) ∧ Below w.heap.size w w' := by
  have p0 : (l.length : Int) ≤ 65536 := by omega
  have p1 : (chooseE l r d 1 2 != 0) = true := by simpa using hE
  clear hE
  go_enter Try.func6, Try.ntmps6
  go_wp2_with fail
  have B0 := (Below.refl w.heap.size w).alloc (Nat.le_refl _) (.cells #[.int .i64 s.k, .int .i64 s.a, .int .i64 s.b, .int .i64 s.c] 24)
  refine (choose_any A l cap r d 1 2 _ (h.below B0)).mono ?_
  rintro e w1 ⟨rfl, b1⟩
  have B1 := below_chain B0 b1 B0.size
  clear b1 B0
  go_wp2_with fail
  refine (awake_any _).mono ?_
  rintro e w2 ⟨rfl, b2⟩
  go_wp2
  go_ret
  exact ⟨rfl, below_chain B1 b2 B1.size⟩

theorem four_cells {w : World} {g : Nat} {t : TypeId} {a b c d : Value} (h : Blk w g t #[a, b, c, d]) :
    w.cell? ⟨g, 0, none⟩ = some a ∧ w.cell? ⟨g, 1, none⟩ = some b ∧ w.cell? ⟨g, 2, none⟩ = some c ∧ w.cell? ⟨g, 3, none⟩ = some d := ⟨h.cell 0, h.cell 1, h.cell 2, h.cell 3⟩
theorem own_snoc {w : World} {base n : Nat} {e : TypeId} {v : Value} {l : List Sp} {s : Sp} (h : w.ownsRow base e 4 v (0 + n + 1) ([] ++ cellsS l ++ s.cells)) : w.ownsRow base e 4 v (n + 1) (cellsS (l ++ [s])) := by
  rw [cellsS_append]
  rw [Nat.zero_add] at h
  simpa [cellsS] using h
theorem choose_n (A : Option Addr) (l : List Sp) (n : Nat) (hn : l.length = n) (cap : Nat) (r d k m : Int) (w : World) (hS : Specs w A l) :
    Calls Try.prog 10 #[.slice A n cap, .int .i64 r, .int .i64 d, .int .i64 k, .int .i64 m] w (PairPost w (chooseV l r d k m) (chooseE l r d k m)) := by
  subst hn
  exact choose_any A l cap r d k m w hS
theorem spec_new (w : World) (s : Sp) (t : TypeId) : ∀ j u, s.cells[j]? = some u → (w.alloc (.cells #[.int .i64 s.k, .int .i64 s.a, .int .i64 s.b, .int .i64 s.c] t)).cell? ((⟨w.heap.size, 0, none⟩ : Addr).add j) = some u := fun j u hj => by
  have hadd : (⟨w.heap.size, 0, none⟩ : Addr).add j = ⟨w.heap.size, j, none⟩ := by unfold Addr.add; split <;> simp_all
  rw [hadd, (Blk.new w t _).cell j, ← hj, ← List.getElem?_toArray]
  rfl
theorem spec_one (s : Sp) : ∀ v ∈ s.cells, v.oneCell' = true := fun v h => by
  simp [Sp.cells] at h
  rcases h with rfl | rfl | rfl | rfl <;> rfl

set_option maxRecDepth 100000 in
set_option maxHeartbeats 8000000 in
theorem routerCheapest_go (A : Option Addr) (l : List Sp) (cap : Nat) (s : Sp) (r d : Int) (w : World) (hl : l.length ≤ 16) (hl0 : 0 < l.length) (h : Specs w A l) (hE : chooseE l r d 1 2 = 0)
    (he : ∀ j, j < l.length → (nthS l j).costE r d = 0) (at_ : Nat) (hv : chooseV l r d 1 2 = at_) (hat : at_ < l.length) (hsc : scanS l 2 r d l.length = (at_, (nthS l at_).costV r d))
    (hmin : ∀ j, j < l.length → (nthS l at_).costV r d ≤ (nthS l j).costV r d) (hfirst : ∀ j, j < at_ → (nthS l at_).costV r d < (nthS l j).costV r d) :
    Calls Try.prog 6 #[.slice A l.length cap, .agg #[.int .i64 s.k, .int .i64 s.a, .int .i64 s.b, .int .i64 s.c], .int .i64 r, .int .i64 d] w fun e w' => e = .returned (.bool true) ∧ Below w.heap.size w w' := by
  have p0 : (l.length : Int) ≤ 65536 := by omega
  have p1 : (0 : Int) ≤ (at_ : Int) := by omega
  have p2 : (at_ : Int) < (l.length : Int) := by omega
  replace hE := Lib.hid hE
  replace hv := Lib.hid hv
  replace hsc := Lib.hid hsc
  replace hmin := Lib.hid hmin
  replace hfirst := Lib.hid hfirst
  replace he := Lib.hid he
  go_enter Try.func6, Try.ntmps6
  go_wp2_with fail
  have B0 := (Below.refl w.heap.size w).alloc (Nat.le_refl _) (.cells #[.int .i64 s.k, .int .i64 s.a, .int .i64 s.b, .int .i64 s.c] 24)
  have m0 := Blk.new w 24 #[.int .i64 s.k, .int .i64 s.a, .int .i64 s.b, .int .i64 s.c]
  refine (choose_any A l cap r d 1 2 _ (h.below B0)).mono ?_
  rintro e w1 ⟨rfl, b1⟩
  rw [hE.out, hv.out]
  have m1 := m0.below b1 m0.lt
  have B1 := below_chain B0 b1 B0.size
  clear b1 B0 m0
  have hS1 := h.below B1
  obtain ⟨g, off, hA, c0, c1, c2, c3⟩ := hS1 at_ hat
  subst hA
  go_wp2_with fail
  refine (costK_any _ _ _ _ r d _ 0 (he.out at_ hat)).mono ?_
  rintro e w2 ⟨rfl, b2⟩
  have m2 := m1.below b2 m1.lt
  have B2 := below_chain B1 b2 B1.size
  clear b2 B1 m1 hS1 c0 c1 c2 c3
  go_wp2_with fail
  go_loopw [13] (fun i wr => ∃ q : Nat, q ≤ l.length ∧ i = .int .i64 (q : Int) ∧ Below w.heap.size w wr ∧ Blk wr w.heap.size 24 #[.int .i64 s.k, .int .i64 s.a, .int .i64 s.b, .int .i64 s.c]) (fun i _ => l.length - (intOf i).toNat)
  case atStart => exact ⟨0, Nat.zero_le _, rfl, B2, m2⟩
  case round =>
    obtain ⟨q, hq, rfl, B3, m3⟩ := hrel
    by_cases hlt : q < l.length
    · obtain ⟨g', off', hA, c0, c1, c2, c3⟩ := (h.below B3) q hlt
      obtain ⟨rfl, rfl⟩ : g = g' ∧ off = off' := by simpa using hA
      clear hA
      have q0 : (0 : Int) ≤ (q : Int) := by omega
      have q1 : (q : Int) < (l.length : Int) := by omega
      have t0 := hmin.out q hlt
      have hz := he.out q hlt
      simp only [Sp.costV] at t0
      by_cases h5 : r < 512
      · have hz2 := costE_more hz h5
        have t2 := costV_more hz h5
        have hr0 := (costE_zero hz).2.1.1
        by_cases h6 : q < at_
        · have f1 : (q : Int) < (at_ : Int) := by omega
          have f2 : (costV (nthS l q).k (nthS l q).a (nthS l q).b (nthS l q).c r d == costV (nthS l at_).k (nthS l at_).a (nthS l at_).b (nthS l at_).c r d) = false := by
            have := hfirst.out q h6
            simp only [Sp.costV] at this
            simp; omega
          clear h6 hE hv hsc
          go_wp2_with fail
          refine (costK_any _ _ _ _ r d _ 0 hz).mono ?_
          rintro e w4 ⟨rfl, b4⟩
          have d0 := below_cell b4 c0
          have d1 := below_cell b4 c1
          have d2 := below_cell b4 c2
          have d3 := below_cell b4 c3
          go_wp2_with fail
          refine (costK_any _ _ _ _ (r + 1) d _ 0 hz2).mono ?_
          rintro e w5 ⟨rfl, b5⟩
          go_wp2
          exact ⟨⟨q + 1, by omega, by go_num, below_chain (below_chain B3 b4 B3.size) b5 (below_chain B3 b4 B3.size).size, (m3.below b4 m3.lt).below b5 (m3.below b4 m3.lt).lt⟩, by simp [intOf]; omega⟩
        · have f1 : (at_ : Int) ≤ (q : Int) := by omega
          clear h6 hE hv hsc
          go_wp2_with fail
          refine (costK_any _ _ _ _ r d _ 0 hz).mono ?_
          rintro e w4 ⟨rfl, b4⟩
          have d0 := below_cell b4 c0
          have d1 := below_cell b4 c1
          have d2 := below_cell b4 c2
          have d3 := below_cell b4 c3
          go_wp2_with fail
          refine (costK_any _ _ _ _ (r + 1) d _ 0 hz2).mono ?_
          rintro e w5 ⟨rfl, b5⟩
          go_wp2
          exact ⟨⟨q + 1, by omega, by go_num, below_chain (below_chain B3 b4 B3.size) b5 (below_chain B3 b4 B3.size).size, (m3.below b4 m3.lt).below b5 (m3.below b4 m3.lt).lt⟩, by simp [intOf]; omega⟩
      · have h5' : 512 ≤ r := by omega
        by_cases h6 : q < at_
        · have f1 : (q : Int) < (at_ : Int) := by omega
          have f2 : (costV (nthS l q).k (nthS l q).a (nthS l q).b (nthS l q).c r d == costV (nthS l at_).k (nthS l at_).a (nthS l at_).b (nthS l at_).c r d) = false := by
            have := hfirst.out q h6
            simp only [Sp.costV] at this
            simp; omega
          clear h6 hE hv hsc h5
          go_wp2_with fail
          refine (costK_any _ _ _ _ r d _ 0 hz).mono ?_
          rintro e w4 ⟨rfl, b4⟩
          go_wp2
          exact ⟨⟨q + 1, by omega, by go_num, below_chain B3 b4 B3.size, m3.below b4 m3.lt⟩, by simp [intOf]; omega⟩
        · have f1 : (at_ : Int) ≤ (q : Int) := by omega
          clear h6 hE hv hsc h5
          go_wp2_with fail
          refine (costK_any _ _ _ _ r d _ 0 hz).mono ?_
          rintro e w4 ⟨rfl, b4⟩
          go_wp2
          exact ⟨⟨q + 1, by omega, by go_num, below_chain B3 b4 B3.size, m3.below b4 m3.lt⟩, by simp [intOf]; omega⟩
    · obtain rfl : q = l.length := by omega
      obtain ⟨i0, hi, hz0, hz1, hz2⟩ := info_parts spec_info
      have hS3 := h.below B3
      go_wp2_with first | (at_builtin; refine wpList_append_own_at _ rfl (.tmp 103) (.tmp 104) 30 rfl w.heap.size 24 i0 _ 4 32 Try.underlying30 hi hz0 hz1 hz2 rfl (by omega) (.slice none 0 0) 0 [] rfl (World.ownsRow_nil _ _ _ _) ⟨g, off, none⟩ l.length cap (cellsS l) rfl (cellsS_length l) (hS3.read rfl) (cellsS_one l) (by simp only [maxLen]; omega) (by omega) B3.size ?_; intro v1 w4 ho1 hg1 hn1 ha1; clear hn1; have m4 := m3.grown hg1 (by simp [Value.ownBlock]); have B4 := below_of_grown B3 hg1 (by simp [Value.ownBlock]); obtain ⟨d0, d1, d2, d3⟩ := four_cells m4) | (at_builtin; refine wpList_append_own_at _ rfl (.tmp 106) (.tmp 108) 30 rfl w.heap.size 24 i0 _ 4 32 Try.underlying30 hi hz0 hz1 hz2 rfl (by omega) v1 (0 + l.length) ([] ++ cellsS l) rfl (ho1.alloc _) ⟨w4.heap.size, 0, none⟩ 1 1 s.cells rfl rfl (spec_new w4 s _) (spec_one s) (by simp only [maxLen]; omega) (by omega) (by have := B4.size; simp; omega) ?_; intro v2 w5 ho2 hg2 hn2 ha2; clear hn2; have ho3 := own_snoc ho2; obtain ⟨g2, cap2, hv2, _, hS5⟩ := own_specs ho3 (by omega); subst hv2; have m5 := (m4.alloc (.cells #[.int .i64 s.k, .int .i64 s.a, .int .i64 s.b, .int .i64 s.c] 24)).grown hg2 (by rcases ha1 with e | e <;> rw [e] <;> simp [Value.ownBlock]; have := m3.lt; omega); have B5 := below_of_grown (B4.alloc B4.size (.cells #[.int .i64 s.k, .int .i64 s.a, .int .i64 s.b, .int .i64 s.c] 24)) hg2 (fun k hk => (ho1.lt k hk).1))
      have hlen : (l ++ [s]).length = l.length + 1 := by simp
      refine (choose_n _ (l ++ [s]) (l.length + 1) hlen cap2 r d 1 2 _ hS5).mono ?_
      rintro e w6 ⟨rfl, b6⟩
      have m6 := m5.below b6 m5.lt
      have B6 := below_chain B5 b6 B5.size
      obtain ⟨n0, n1, n2, n3⟩ := four_cells m6
      clear b6 B5 m5 hS5 ho1 ho2 ho3 hg1 hg2 m4 B4 d0 d1 d2 d3 hS3 m3 B3 ha1 ha2
      by_cases hE2 : chooseE (l ++ [s]) r d 1 2 = 0
      · obtain ⟨hc, hcase⟩ := chosen_more hl0 hsc.out hE2
        rw [hE2]
        rcases hcase with ⟨hk, hlt2⟩ | ⟨hk, hle2⟩
        · rw [hk]
          have f1 : ((l.length : Int) == (at_ : Int)) = false := by simp; omega
          simp only [Sp.costV] at hlt2
          clear hE2 hk hE hv hsc hlt
          go_wp2_with fail
          refine (costK_any _ _ _ _ r d _ 0 hc).mono ?_
          rintro e w7 ⟨rfl, b7⟩
          have B7 := below_chain B6 b7 B6.size
          clear b7 B6 m6 n0 n1 n2 n3
          go_wp2_with fail
          refine (awake_any _).mono ?_
          rintro e w8 ⟨rfl, b8⟩
          go_wp2
          go_ret
          exact ⟨rfl, below_chain B7 b8 B7.size⟩
        · rw [hk]
          simp only [Sp.costV] at hle2
          clear hE2 hk hE hv hsc hlt
          go_wp2_with fail
          refine (costK_any _ _ _ _ r d _ 0 hc).mono ?_
          rintro e w7 ⟨rfl, b7⟩
          have B7 := below_chain B6 b7 B6.size
          clear b7 B6 m6 n0 n1 n2 n3
          go_wp2_with fail
          refine (awake_any _).mono ?_
          rintro e w8 ⟨rfl, b8⟩
          go_wp2
          go_ret
          exact ⟨rfl, below_chain B7 b8 B7.size⟩
      · have f1 : (chooseE (l ++ [s]) r d 1 2 != 0) = true := by simpa using hE2
        clear hE2 hE hv hsc hlt
        go_wp2_with fail
        refine (awake_any _).mono ?_
        rintro e w7 ⟨rfl, b7⟩
        go_wp2
        go_ret
        exact ⟨rfl, below_chain B6 b7 B6.size⟩

theorem routerCheapest_any (A : Option Addr) (l : List Sp) (cap : Nat) (s : Sp) (r d : Int) (w : World) (h : Specs w A l) :
    Calls Try.prog 6 #[.slice A l.length cap, .agg #[.int .i64 s.k, .int .i64 s.a, .int .i64 s.b, .int .i64 s.c], .int .i64 r, .int .i64 d] w fun e w' => e = .returned (.bool true) ∧ Below w.heap.size w w' := by
  by_cases hl : 65536 < l.length
  · exact routerCheapest_long A l cap s r d w hl
  by_cases hE : chooseE l r d 1 2 = 0
  · obtain ⟨h0, h1, he, at_, hv, hat, hsc, hmin, hfirst⟩ := chosen hE
    exact routerCheapest_go A l cap s r d w h1 h0 h hE he at_ hv hat hsc hmin hfirst
  · exact routerCheapest_none A l cap s r d w (by omega) h hE
end Go.Proofs.Ytnhplinlibegnaa
