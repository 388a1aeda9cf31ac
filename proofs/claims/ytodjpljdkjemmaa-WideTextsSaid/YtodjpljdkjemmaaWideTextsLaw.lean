/- WideTexts: the walk. -/
import Derived.Test.YtodjpljdkjemmaaRefParse2
import Derived.Test.YtodjpljdkjemmaaWideLawsA
import Derived.Deep.RegionHeld3
namespace Go.Proofs.Ytodjpljdkjemmaa
open Go.RowKit
set_option linter.unusedVariables false

theorem par_half {s : ByteArray} {h l : Nat} {f : Int} {e : Ending} {w w' : World} (s2 : Sm l) (hn : parN s = wh h l) (hf : f = parE s) (hp : NumPost w (parN s) (parE s) e w') : HalfPost w h l f e w' := by
  unfold NumPost at hp
  unfold HalfPost
  rw [hf, ← num_wh h l s2, ← hn]
  exact hp
theorem par_lt (s : ByteArray) : parN s < 340282366920938463463374607431768211456 := by
  unfold parN
  split
  · rename_i h
    exact h.2
  · omega
theorem rprint_t (ah al : Nat) (s1 : Sm ah) (s2 : Sm al) (t : ByteArray) (ht : t = text (dec (wh ah al))) (w : World) : Calls Try.prog 21 #[.agg #[.int .u64 (ah : Int), .int .u64 (al : Int)]] w fun e w' => e = .returned (.string t) ∧ Below w.heap.size w w' := by
  rw [ht]
  exact rprint_h ah al s1 s2 w
theorem six_held {w w1 w2 : World} {g1 g2 g3 : Nat} {u v u2 v2 u3 v3 : Value} (h : Below w.heap.size w w1 ∧ w1.cell? ⟨g1, 0, none⟩ = some u ∧ w1.cell? ⟨g1, 1, none⟩ = some v ∧ w1.cell? ⟨g2, 0, none⟩ = some u2 ∧ w1.cell? ⟨g2, 1, none⟩ = some v2 ∧ w1.cell? ⟨g3, 0, none⟩ = some u3 ∧ w1.cell? ⟨g3, 1, none⟩ = some v3) (hb : Below w1.heap.size w1 w2) :
    Below w.heap.size w w2 ∧ w2.cell? ⟨g1, 0, none⟩ = some u ∧ w2.cell? ⟨g1, 1, none⟩ = some v ∧ w2.cell? ⟨g2, 0, none⟩ = some u2 ∧ w2.cell? ⟨g2, 1, none⟩ = some v2 ∧ w2.cell? ⟨g3, 0, none⟩ = some u3 ∧ w2.cell? ⟨g3, 1, none⟩ = some v3 :=
  ⟨below_chain h.1 hb h.1.size, below_cell hb h.2.1, below_cell hb h.2.2.1, below_cell hb h.2.2.2.1, below_cell hb h.2.2.2.2.1, below_cell hb h.2.2.2.2.2.1, below_cell hb h.2.2.2.2.2.2⟩
set_option maxRecDepth 100000 in
set_option maxHeartbeats 4000000 in
theorem texts_long (ah al : Nat) (s : ByteArray) (h : (65536 : Int) < (s.size : Int)) (w : World) :
    Calls Try.prog 6 #[.agg #[.int .u64 (ah : Int), .int .u64 (al : Int)], .string s] w fun e w' => e = .returned (.bool true) ∧ Below w.heap.size w w' := by
  go_enter Try.func6, Try.ntmps6
  go_wp2
  go_ret
  exact ⟨rfl, (Below.refl _ _).alloc (Nat.le_refl _) _⟩
set_option maxRecDepth 100000 in
set_option maxHeartbeats 4000000 in
theorem texts_run (ah al : Nat) (s : ByteArray) (s1 : Sm ah) (s2 : Sm al) (h : ¬ (65536 : Int) < (s.size : Int)) (w : World) :
    Calls Try.prog 6 #[.agg #[.int .u64 (ah : Int), .int .u64 (al : Int)], .string s] w fun e w' => e = .returned (.bool true) ∧ Below w.heap.size w w' := by
  obtain ⟨ph, pl, p1, p2, hp⟩ := wh_of (parN s) (par_lt s)
  obtain ⟨f, hf⟩ : ∃ f : Int, f = parE s := ⟨_, rfl⟩
  obtain ⟨t, ht⟩ : ∃ t : ByteArray, t = text (dec (wh ah al)) := ⟨_, rfl⟩
  replace hp := Lib.hid hp.symm
  replace hf := Lib.hid hf
  replace ht := Lib.hid ht
  have h2 : decide ((65536 : Int) < (s.size : Int)) = false := decide_eq_false h
  clear h
  have b0 := Blk.new w 24 #[.int .u64 (ah : Int), .int .u64 (al : Int)]
  have B0 := below_alloc1 w (Obj.cells #[.int .u64 (ah : Int), .int .u64 (al : Int)] 24)
  go_enter Try.func6, Try.ntmps6
  go_wp2_with fail
  generalize w.alloc (Obj.cells #[.int .u64 (ah : Int), .int .u64 (al : Int)] 24) = w0 at *
  refine ((parse_any s _).mono fun e w' h => par_half p2 hp.out hf.out h).mono ?_
  rintro e v1 ⟨rfl, y1⟩
  have b1 := two_keep b0 y1
  have B1 := below_chain B0 y1 B0.size
  clear b0 B0 y1 w0
  go_wp2_with fail
  have b2 := two_keep b1 (below_alloc1 v1 (Obj.cells #[.int .u64 (ph : Int), .int .u64 (pl : Int)] 24))
  have B2 := B1.alloc B1.size (Obj.cells #[.int .u64 (ph : Int), .int .u64 (pl : Int)] 24)
  have d2 := Blk.new v1 24 #[.int .u64 (ph : Int), .int .u64 (pl : Int)]
  generalize v1.alloc (Obj.cells #[.int .u64 (ph : Int), .int .u64 (pl : Int)] 24) = v2 at *
  generalize v1.heap.size = g1 at *
  clear b1 B1 v1
  refine ((rparse_any s _).mono fun e w' h => par_half p2 hp.out hf.out h).mono ?_
  rintro e v3 ⟨rfl, y3⟩
  have b3 := two_keep b2 y3
  have d3 := two_keep d2 y3
  have B3 := below_chain B2 y3 B2.size
  clear b2 d2 B2 y3 v2
  go_wp2_with fail
  have b4 := two_keep b3 (below_alloc1 v3 (Obj.cells #[.int .u64 (ph : Int), .int .u64 (pl : Int)] 24))
  have d4 := two_keep d3 (below_alloc1 v3 (Obj.cells #[.int .u64 (ph : Int), .int .u64 (pl : Int)] 24))
  have B4 := B3.alloc B3.size (Obj.cells #[.int .u64 (ph : Int), .int .u64 (pl : Int)] 24)
  have k4 := Blk.new v3 24 #[.int .u64 (ph : Int), .int .u64 (pl : Int)]
  generalize v3.alloc (Obj.cells #[.int .u64 (ph : Int), .int .u64 (pl : Int)] 24) = v4 at *
  generalize v3.heap.size = g3 at *
  clear b3 d3 B3 v3
  have S0 : Below w.heap.size w v4.drew ∧ v4.drew.cell? ⟨w.heap.size, 0, none⟩ = some (.int .u64 (ah : Int)) ∧ v4.drew.cell? ⟨w.heap.size, 1, none⟩ = some (.int .u64 (al : Int)) ∧ v4.drew.cell? ⟨g1, 0, none⟩ = some (.int .u64 (ph : Int)) ∧ v4.drew.cell? ⟨g1, 1, none⟩ = some (.int .u64 (pl : Int)) ∧
      v4.drew.cell? ⟨g3, 0, none⟩ = some (.int .u64 (ph : Int)) ∧ v4.drew.cell? ⟨g3, 1, none⟩ = some (.int .u64 (pl : Int)) := ⟨B4.drew, b4.cell 0, b4.cell 1, d4.cell 0, d4.cell 1, k4.cell 0, k4.cell 1⟩
  clear b4 d4 k4 B4
  go_region_held3 (fun w' => Below w.heap.size w w' ∧ w'.cell? ⟨w.heap.size, 0, none⟩ = some (.int .u64 (ah : Int)) ∧ w'.cell? ⟨w.heap.size, 1, none⟩ = some (.int .u64 (al : Int)) ∧ w'.cell? ⟨g1, 0, none⟩ = some (.int .u64 (ph : Int)) ∧ w'.cell? ⟨g1, 1, none⟩ = some (.int .u64 (pl : Int)) ∧
      w'.cell? ⟨g3, 0, none⟩ = some (.int .u64 (ph : Int)) ∧ w'.cell? ⟨g3, 1, none⟩ = some (.int .u64 (pl : Int))) (first | exact six_held (by assumption) hb | exact S0)
    (first | (go_at_call 13; refine (awake_any _).mono ?_; rintro e w' ⟨rfl, hb⟩)
           | (go_at_call 20; (with_reducible refine (print_h ah al s1 s2 t ht.out _).mono ?_); rintro e w' ⟨rfl, hb⟩)
           | (go_at_call 21; (with_reducible refine (rprint_t ah al s1 s2 t ht.out _).mono ?_); rintro e w' ⟨rfl, hb⟩))
  rename_i hH
  replace S0 := hH.1
  clear hH
  go_wp2
  go_ret
  exact ⟨rfl, S0⟩
/-- WideTexts answers true, whatever the number and the text. -/
theorem wideTexts_any (ah al : Nat) (s : ByteArray) (s1 : Sm ah) (s2 : Sm al) (w : World) :
    Calls Try.prog 6 #[.agg #[.int .u64 (ah : Int), .int .u64 (al : Int)], .string s] w fun e w' => e = .returned (.bool true) ∧ Below w.heap.size w w' := by
  by_cases h : (65536 : Int) < (s.size : Int)
  · exact texts_long ah al s h w
  · exact texts_run ah al s s1 s2 h w
end Go.Proofs.Ytodjpljdkjemmaa
