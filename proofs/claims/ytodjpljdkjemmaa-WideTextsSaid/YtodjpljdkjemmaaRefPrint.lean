/- The contract of the document's Print. -/
import Derived.Test.YtodjpljdkjemmaaNumTenth
import Derived.Test.YtodjpljdkjemmaaDecimal
namespace Go.Proofs.Ytodjpljdkjemmaa
open Go.RowKit
set_option linter.unusedVariables false

def strLen : Value → Nat
  | .string s => s.size
  | _ => 0
theorem text_one (r : Nat) (hr : r < 10) (w : World) : (Instr.slice 9 (.string ⟨#[48, 49, 50, 51, 52, 53, 54, 55, 56, 57]⟩) (some (.int .i64 (r : Int))) (some (.int .i64 ((r : Int) + 1))) none).run Try.prog w = .ok (.string (text [48 + r])) w := by
  rw [run_slice_string w 9 ⟨#[48, 49, 50, 51, 52, 53, 54, 55, 56, 57]⟩ .i64 .i64 (r : Int) ((r : Int) + 1) Try.underlying9 (by omega) (by omega) (by show (r : Int) + 1 ≤ (10 : Int); omega)]
  have : ∀ r : Fin 10, (ByteArray.mk #[48, 49, 50, 51, 52, 53, 54, 55, 56, 57]).extract r.val (r.val + 1) = text [48 + r.val] := by decide +kernel
  have h := this ⟨r, hr⟩
  rw [show ((r : Int)).toNat = r by omega, show ((r : Int) + 1).toNat = r + 1 by omega, h]
theorem text_cons (x : Nat) (L : List Nat) : text [x] ++ text L = text (x :: L) := by
  apply ByteArray.ext
  simp [text]
theorem text_none (L : List Nat) : (text L).toList.isEmpty = L.isEmpty := by
  rw [text, ByteArray.toList_mk]
  cases L <;> rfl
/-- Are all digits none? -/
theorem zero_digits : ∀ (D : List Nat), val D = 0 → ∀ i, nthN D i = 0
  | [], _, i => by simp [nthN]
  | d :: D, h, 0 => by rw [val] at h; have : d = 0 := by omega
                       simp [nthN, this]
  | d :: D, h, i + 1 => by
    rw [val] at h
    have := zero_digits D (by omega) i
    simpa [nthN] using this
theorem some_digit (D : List Nat) (hD : Dig D) (h : val D ≠ 0) : ∃ i, i < 8 ∧ nthN D i ≠ 0 := by
  rcases Nat.lt_or_ge 0 (nthN D 0 + nthN D 1 + nthN D 2 + nthN D 3 + nthN D 4 + nthN D 5 + nthN D 6 + nthN D 7) with h1 | h1
  · by_cases e0 : nthN D 0 = 0
    · by_cases e1 : nthN D 1 = 0
      · by_cases e2 : nthN D 2 = 0
        · by_cases e3 : nthN D 3 = 0
          · by_cases e4 : nthN D 4 = 0
            · by_cases e5 : nthN D 5 = 0
              · by_cases e6 : nthN D 6 = 0
                · exact ⟨7, by omega, by omega⟩
                · exact ⟨6, by omega, e6⟩
              · exact ⟨5, by omega, e5⟩
            · exact ⟨4, by omega, e4⟩
          · exact ⟨3, by omega, e3⟩
        · exact ⟨2, by omega, e2⟩
      · exact ⟨1, by omega, e1⟩
    · exact ⟨0, by omega, e0⟩
  · exfalso
    apply h
    match D, hD.1 with
    | [a, b, c, d, e, f, g, i], _ => simp [nthN] at h1; simp [val]; omega
/-- Eight digits held against none. -/
theorem eq_none (a0 a1 a2 a3 a4 a5 a6 a7 : Int) (w : World) : (Op.equalIn 9999 41 (.agg #[.int .i64 a0, .int .i64 a1, .int .i64 a2, .int .i64 a3, .int .i64 a4, .int .i64 a5, .int .i64 a6, .int .i64 a7]) (.agg #[.int .i64 0, .int .i64 0, .int .i64 0, .int .i64 0, .int .i64 0, .int .i64 0, .int .i64 0, .int .i64 0])).run Try.prog w = .ok (a0 == 0 && (a1 == 0 && (a2 == 0 && (a3 == 0 && (a4 == 0 && (a5 == 0 && (a6 == 0 && a7 == 0))))))) w := by
  have uu := Try.underlying3
  have aa := Try.isAgg3
  have zz := Try.sizeOf3
  rw [show (9999 : Nat) = 9998 + 1 from rfl, Op.equalIn]
  simp only [Sem.run_bind, run_underlying Try.underlying41, Result.andThen_ok]
  simp only [Std.Legacy.Range.forIn_eq_forIn_range', Std.Legacy.Range.size, Nat.sub_zero, Nat.add_sub_cancel, Nat.div_one, List.range'_succ, List.range'_zero, List.forIn_cons, List.forIn_nil]
  go_simp
  by_cases h0 : a0 = 0 <;> simp [h0]
  by_cases h1 : a1 = 0 <;> simp [h1]
  by_cases h2 : a2 = 0 <;> simp [h2]
  by_cases h3 : a3 = 0 <;> simp [h3]
  by_cases h4 : a4 = 0 <;> simp [h4]
  by_cases h5 : a5 = 0 <;> simp [h5]
  by_cases h6 : a6 = 0 <;> simp [h6]
  by_cases h7 : a7 = 0 <;> simp [h7]
theorem eq_some (D : List Nat) (hD : Dig D) (h : val D ≠ 0) : ((nthN D 0 : Int) == 0 && ((nthN D 1 : Int) == 0 && ((nthN D 2 : Int) == 0 && ((nthN D 3 : Int) == 0 && ((nthN D 4 : Int) == 0 && ((nthN D 5 : Int) == 0 && ((nthN D 6 : Int) == 0 && (nthN D 7 : Int) == 0))))))) = false := by
  obtain ⟨i, hi, hne⟩ := some_digit D hD h
  match i, hi with
  | 0, _ => simp; omega
  | 1, _ => simp; omega
  | 2, _ => simp; omega
  | 3, _ => simp; omega
  | 4, _ => simp; omega
  | 5, _ => simp; omega
  | 6, _ => simp; omega
  | 7, _ => simp; omega
def PrintAt (w wr : World) (g : Nat) (D : List Nat) : Prop := Below w.heap.size w wr ∧ w.heap.size < g ∧ Blk wr g 43 (numC D false)
set_option maxRecDepth 100000 in
set_option maxHeartbeats 4000000 in
theorem rprint_h (ah al : Nat) (s1 : Sm ah) (s2 : Sm al) (w : World) : Calls Try.prog 21 #[.agg #[.int .u64 (ah : Int), .int .u64 (al : Int)]] w fun e w' => e = .returned (.string (text (dec (wh ah al)))) ∧ Below w.heap.size w w' := by
  have hn := Lib.hid (wh_lt s1 s2)
  have B0 := below_alloc1 w (Obj.cells #[.int .u64 (ah : Int), .int .u64 (al : Int)] 24)
  have l0 : w.heap.size < (w.alloc (Obj.cells #[.int .u64 (ah : Int), .int .u64 (al : Int)] 24)).heap.size := by simp
  go_enter Try.func21, Try.ntmps21
  go_wp2_with fail
  generalize w.alloc (Obj.cells #[.int .u64 (ah : Int), .int .u64 (al : Int)] 24) = w0 at *
  refine (of_any ah al s1 s2 _).mono ?_
  rintro e w1 ⟨D0, rfl, hd0, hv0, y1⟩
  have hP0 : PrintAt w (w1.alloc (.cells (numC D0 false) 43)) w1.heap.size D0 := ⟨(below_chain B0 y1 B0.size).alloc (below_chain B0 y1 B0.size).size _, by have := y1.size; omega, Blk.new _ _ _⟩
  have hPr0 : Pr (wh ah al) (val D0) 0 [] := ⟨rfl, by omega, by rw [hv0]; simp, .inl ⟨rfl, hv0⟩⟩
  replace hPr0 := Lib.hid hPr0
  replace hP0 := Lib.hid hP0
  clear B0 l0 y1 hv0
  unfold numV
  go_wp2_with fail
  generalize w1.heap.size = g at *
  go_loopw [4] (fun sv wr => ∃ (k m : Nat) (L : List Nat) (D : List Nat), sv = .string (text L) ∧ Pr (wh ah al) m k L ∧ Dig D ∧ val D = m ∧ PrintAt w wr g D) (fun sv _ => 39 - strLen sv)
  case atStart => exact ⟨0, val D0, [], D0, rfl, hPr0.out, hd0, rfl, hP0.out⟩
  case round =>
    clear hPr0 hP0 hd0
    obtain ⟨k, m, L, D, rfl, hP, hd, hv, hB, hg, bn⟩ := hrel
    obtain ⟨c0, c1, c2, c3, c4, c5, c6, c7, c8⟩ := num_cells bn
    by_cases hgo : k = 0 ∨ m ≠ 0
    · have hk : k < 39 := by
        have := hP.2.2.1
        have hn := hn.out
        have := hP.2.1
        rcases hgo with h0 | h0
        · omega
        · rcases Nat.lt_or_ge k 39 with hlt | hge
          · exact hlt
          · obtain rfl : k = 39 := by omega
            have : 1 * 10 ^ 39 ≤ m * 10 ^ 39 := Nat.mul_le_mul_right _ (by omega)
            omega
      have hstep := hP.step hk hgo
      have hlen : (text L).size = k := by rw [text_size]; exact hP.1
      have hlen2 : (text ((48 + m % 10) :: L)).size = k + 1 := by rw [text_size, List.length_cons, hP.1]
      have hem : (text L).toList.isEmpty = decide (k = 0) := by
        rw [text_none]
        have := hP.1
        cases L <;> simp at this ⊢ <;> omega
      replace hstep := Lib.hid hstep
      replace hP := Lib.hid hP
      by_cases h0 : k = 0
      · have t0 : (text L).toList.isEmpty = true := by rw [hem]; simp [h0]
        clear hem
        go_wp2_with fail
        refine (tenth_any D false hd _).mono ?_
        rintro e w3 ⟨D3, r, rfl, hd3, hv3, hr3, y3⟩
        have bn3 := bn.below y3 bn.lt
        have hB3 := below_chain hB y3 hB.size
        rw [hv] at hv3 hr3
        rw [← hr3] at hlen2
        have hr10 : r < 10 := by omega
        have hstep2 := hstep.out
        rw [← hr3, ← hv3] at hstep2
        replace hstep2 := Lib.hid hstep2
        have hone := text_one r hr10
        have hcat := text_cons (48 + r) L
        have hone1 : (text [48 + r]).size = 1 := by rw [text_size]; rfl
        have hk1 : ¬ 9223372036854775807 < 1 + k := by omega
        obtain ⟨x0, x1, x2, x3, x4, x5, x6, x7, x8⟩ := num_cells bn3
        obtain ⟨z0, z1, z2, z3, z4, z5, z6, z7, z8⟩ := num_free bn3
        have hl3 := bn3.lt
        have hn3 : ¬ g = w3.heap.size := by omega
        clear c0 c1 c2 c3 c4 c5 c6 c7 c8 hr3 hv3 hv hstep t0 y3
        unfold numV
        go_wp2_with fail
        rw [nine_fold w3 g D3 false]
        have b9 := nine_blk D3 false bn3
        have B9 := nine_below D3 false hB3 (g := g) (by omega)
        generalize nine w3 g D3 false = w9 at *
        exact ⟨⟨k + 1, val D3, (48 + r) :: L, D3, rfl, hstep2.out, hd3, rfl, B9.alloc B9.size _, hg, b9.alloc _⟩, by show 39 - (text ((48 + r) :: L)).size < 39 - (text L).size; rw [hlen2, hlen]; omega⟩
      · have t0 : (text L).toList.isEmpty = false := by rw [hem]; simp [h0]
        have hm : val D ≠ 0 := by omega
        have hq := fun w => (eq_none (nthN D 0 : Int) (nthN D 1 : Int) (nthN D 2 : Int) (nthN D 3 : Int) (nthN D 4 : Int) (nthN D 5 : Int) (nthN D 6 : Int) (nthN D 7 : Int) w).trans (by rw [eq_some D hd hm])
        clear hem hm h0 hgo
        go_wp2_with fail
        clear hq
        refine (tenth_any D false hd _).mono ?_
        rintro e w3 ⟨D3, r, rfl, hd3, hv3, hr3, y3⟩
        have bn3 := bn.below y3 bn.lt
        have hB3 := below_chain hB y3 hB.size
        rw [hv] at hv3 hr3
        rw [← hr3] at hlen2
        have hr10 : r < 10 := by omega
        have hstep2 := hstep.out
        rw [← hr3, ← hv3] at hstep2
        replace hstep2 := Lib.hid hstep2
        have hone := text_one r hr10
        have hcat := text_cons (48 + r) L
        have hone1 : (text [48 + r]).size = 1 := by rw [text_size]; rfl
        have hk1 : ¬ 9223372036854775807 < 1 + k := by omega
        obtain ⟨x0, x1, x2, x3, x4, x5, x6, x7, x8⟩ := num_cells bn3
        obtain ⟨z0, z1, z2, z3, z4, z5, z6, z7, z8⟩ := num_free bn3
        have hl3 := bn3.lt
        have hn3 : ¬ g = w3.heap.size := by omega
        clear c0 c1 c2 c3 c4 c5 c6 c7 c8 hr3 hv3 hv hstep t0 y3
        unfold numV
        go_wp2_with fail
        rw [nine_fold w3 g D3 false]
        have b9 := nine_blk D3 false bn3
        have B9 := nine_below D3 false hB3 (g := g) (by omega)
        generalize nine w3 g D3 false = w9 at *
        exact ⟨⟨k + 1, val D3, (48 + r) :: L, D3, rfl, hstep2.out, hd3, rfl, B9.alloc B9.size _, hg, b9.alloc _⟩, by show 39 - (text ((48 + r) :: L)).size < 39 - (text L).size; rw [hlen2, hlen]; omega⟩
    · have h0 : k ≠ 0 := by omega
      have hm : m = 0 := by omega
      have hL : dec (wh ah al) = L := by
        rcases hP.2.2.2 with x | x
        · omega
        · rw [x.2, hm, dig_zero]; rfl
      have hem : (text L).toList.isEmpty = false := by
        rw [text_none]
        have := hP.1
        cases L with
        | nil => simp at this; omega
        | cons a l => rfl
      have hz := zero_digits D (by rw [hv]; exact hm)
      have hq := fun w => (eq_none (nthN D 0 : Int) (nthN D 1 : Int) (nthN D 2 : Int) (nthN D 3 : Int) (nthN D 4 : Int) (nthN D 5 : Int) (nthN D 6 : Int) (nthN D 7 : Int) w).trans (by rw [hz 0, hz 1, hz 2, hz 3, hz 4, hz 5, hz 6, hz 7])
      replace hL := Lib.hid hL
      clear hz hgo hP hm h0
      go_wp2
      go_ret
      exact ⟨by rw [hL.out]; rfl, hB⟩
end Go.Proofs.Ytodjpljdkjemmaa
