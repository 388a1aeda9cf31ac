/- The contracts of wal.head and wal.laid: a segment's head, a record as bytes. -/
import Derived.Test.YtejbfglaalmafaaGreatDoorLGet
import Derived.Lib.AppendStr
import Derived.Deep.RegionHeld3
import Derived.Deep.CutRange
namespace Go.Proofs.YtejbfglaalmafaaGreatDoor
open Go.RowKit
set_option linter.unusedVariables false

/-- Bytes of the call's own, from block B on; nothing below B has turned. -/
def MadePost (B : Nat) (w : World) (l : List UInt8) (e : Ending) (w' : World) : Prop := ∃ v, e = .returned v ∧ w'.ownsRow B 5 1 v l.length (bytesV l) ∧ Below B w w'
theorem OwnPost.made {B : Nat} {w0 w : World} {v : Value} {xs ys : List UInt8} {e : Ending} {w' : World} {n : Nat} {zs : List Value} (h : OwnPost B w v ys e w') (hb : Below B w0 w) (hz : B ≤ w.heap.size) (HO : w.ownsRow B 5 1 v n zs) : MadePost B w0 ys e w' := by
  obtain ⟨v2, h1, h2, h3, _⟩ := h
  exact ⟨v2, h1, h2, hb.grown h3 hz (fun k hk => (own_lt' HO k hk).1)⟩
set_option maxRecDepth 100000 in
theorem head_any (first : Int) (hf : 0 ≤ first ∧ first < 9223372036854775808) (w : World) :
    Calls Tryz.prog 56 #[.int .i64 first] w (MadePost w.heap.size w (headB first)) := by
  have h1 := Lib.hid (put32_any w.heap.size (.slice none 0 0) [] 1818326888 (by omega) w (World.ownsRow_nil _ _ _ _) (Nat.le_refl _) (by simp))
  have h2 := Lib.hid (fun v1 w1 (HO1 : w1.ownsRow w.heap.size 5 1 v1 (leB 4 1818326888).length (bytesV (leB 4 1818326888))) (hB1 : w.heap.size ≤ w1.heap.size) => put64_any w.heap.size v1 (leB 4 1818326888) first (by omega) w1 HO1 hB1 (by rw [leB_length]; omega))
  have h3 := Lib.hid (fun v1 w1 (HO1 : w1.ownsRow w.heap.size 5 1 v1 (leB 4 1818326888 ++ leB 8 first).length (bytesV (leB 4 1818326888 ++ leB 8 first))) (hB1 : w.heap.size ≤ w1.heap.size) => sealed_any w.heap.size v1 (leB 4 1818326888 ++ leB 8 first) (by simp [leB_length]) w1 HO1 hB1 (by simp [leB_length]))
  have hu : IntKind.u64.wrap first = first := by rw [IntKind.wrap_u64]; omega
  have hu2 : first % 18446744073709551616 = first := by omega
  rw [List.nil_append] at h1
  have hh : (leB 4 1818326888 ++ leB 8 first) ++ leB 4 (crcN (leB 4 1818326888 ++ leB 8 first)) = headB first := rfl
  rw [hh] at h3
  clear hh hf
  generalize headB first = H at *
  generalize leB 4 1818326888 ++ leB 8 first = H8 at *
  generalize leB 4 1818326888 = H4 at *
  go_enter Tryz.func56, Tryz.ntmps56
  go_wp2_with fail
  refine h1.out.mono ?_
  rintro e w1 ⟨v1, rfl, HO1, hg1, hat1⟩
  have B1 : Below w.heap.size w w1 := (Below.refl _ _).grown hg1 (Nat.le_refl _) (fun k hk => by simp [Value.ownBlock] at hk)
  go_wp2_with fail
  refine (h2.out v1 w1 HO1 B1.size).mono ?_
  rintro e w2 ⟨v2, rfl, HO2, hg2, hat2⟩
  have B2 : Below w.heap.size w w2 := B1.grown hg2 B1.size (fun k hk => (own_lt' HO1 k hk).1)
  go_wp2_with fail
  refine (h3.out v2 w2 HO2 B2.size).mono ?_
  rintro e w3 ⟨v3, rfl, HO3, hg3, hat3⟩
  go_wp2_with fail
  go_ret
  exact ⟨v3, rfl, HO3, B2.grown hg3 B2.size (fun k hk => (own_lt' HO2 k hk).1)⟩
/-- A record as bytes. -/
def laidX (seq : Nat) (d : List UInt8) : List UInt8 := leB 4 (d.length : Int) ++ leB 8 (seq : Int) ++ d
def laidB (seq : Nat) (d : List UInt8) : List UInt8 := laidX seq d ++ leB 4 (crcN (laidX seq d))
theorem laidX_length (seq : Nat) (d : List UInt8) : (laidX seq d).length = 12 + d.length := by simp [laidX, leB_length]; omega
theorem laidB_length (seq : Nat) (d : List UInt8) : (laidB seq d).length = 16 + d.length := by simp [laidB, laidX, leB_length]; omega
theorem str_info : (Tryz.prog.info? 5).map (fun i => (i.zero, i.size, i.bytes)) = some (some (.int .u8 0), 1, 1) := byte_info
theorem new_block {w : World} {v : Value} {k : Nat} (h : v.ownBlock = (Value.slice none 0 0).ownBlock ∨ ∃ q, v.ownBlock = some q ∧ w.heap.size ≤ q) (hk : v.ownBlock = some k) : w.heap.size ≤ k := by
  rcases h with e | ⟨q, e, hq⟩
  · rw [e] at hk; simp [Value.ownBlock] at hk
  · rw [e] at hk; injection hk with hk; omega
theorem two_held' {w1 w2 : World} {a1 a2 : Addr} {v1 v2 : Value} (h : w1.cell? a1 = some v1 ∧ w1.cell? a2 = some v2) (hb : Below w1.heap.size w1 w2) : w2.cell? a1 = some v1 ∧ w2.cell? a2 = some v2 := ⟨below_cell hb h.1, below_cell hb h.2⟩
set_option maxRecDepth 100000 in
set_option maxHeartbeats 4000000 in
theorem laid_any (seq : Nat) (s : ByteArray) (hs : s.size ≤ 65536) (hq : seq ≤ 1000000000000) (w : World) :
    Calls Tryz.prog 57 #[.agg #[.int .i64 (seq : Int), .string s]] w (MadePost w.heap.size w (laidB seq s.data.toList)) := by
  obtain ⟨d, hd⟩ : ∃ d, d = s.data.toList := ⟨_, rfl⟩
  have hdl : d.length = s.size := by rw [hd, Array.length_toList]; rfl
  have hsc : Lib.strCells s = bytesV d := by rw [hd]; rfl
  rw [← hd]
  obtain ⟨i0, hi, hzz⟩ := Option.map_eq_some_iff.1 str_info
  simp only [Prod.mk.injEq] at hzz
  obtain ⟨hz0, hz1, hz2⟩ := hzz
  have hb1 := below_alloc1 w (.cells #[.int .i64 (seq : Int), .string s] 49)
  have hbk := Blk.new w 49 #[.int .i64 (seq : Int), .string s]
  have c0 := hbk.cell 0
  have c1 := hbk.cell 1
  simp only [List.getElem?_toArray, List.getElem?_cons_zero, List.getElem?_cons_succ] at c0 c1
  have hz : w.heap.size ≤ (w.alloc (.cells #[.int .i64 (seq : Int), .string s] 49)).heap.size := hb1.size
  have h1 := Lib.hid (fun x (hx : Below w.heap.size w x) => put32_any w.heap.size (.slice none 0 0) [] (d.length : Int) (by omega) x (World.ownsRow_nil _ _ _ _) hx.size (by simp))
  have h2 := Lib.hid (fun v1 w1 (HO1 : w1.ownsRow w.heap.size 5 1 v1 (leB 4 (d.length : Int)).length (bytesV (leB 4 (d.length : Int)))) (hB1 : w.heap.size ≤ w1.heap.size) => put64_any w.heap.size v1 (leB 4 (d.length : Int)) (seq : Int) (by omega) w1 HO1 hB1 (by rw [leB_length]; omega))
  have h3 := Lib.hid (fun v1 w1 (HO1 : w1.ownsRow w.heap.size 5 1 v1 (laidX seq d).length (bytesV (laidX seq d))) (hB1 : w.heap.size ≤ w1.heap.size) => sealed_any w.heap.size v1 (laidX seq d) (by rw [laidX_length]; omega) w1 HO1 hB1 (by rw [laidX_length]; omega))
  rw [List.nil_append] at h1
  have hsz : (s.size : Int) = (d.length : Int) := by omega
  have hu1 : IntKind.u32.wrap (d.length : Int) = (d.length : Int) := by rw [IntKind.wrap_u32]; omega
  have hu2 : IntKind.u64.wrap (seq : Int) = (seq : Int) := by rw [IntKind.wrap_u64]; omega
  have hX : leB 4 (d.length : Int) ++ leB 8 (seq : Int) ++ d = laidX seq d := rfl
  have hXl : (leB 4 (d.length : Int) ++ leB 8 (seq : Int)).length + s.size = (laidX seq d).length := by rw [← hX, List.length_append (bs := d), hdl]
  have hB : laidX seq d ++ leB 4 (crcN (laidX seq d)) = laidB seq d := rfl
  rw [hB] at h3
  have hbnd := Lib.hid hdl
  have hs2 := Lib.hid hs
  have hl2 : (leB 4 (d.length : Int) ++ leB 8 (seq : Int)).length = 12 := by simp [leB_length]
  clear hB hdl hs hq hd
  replace hX := Lib.hid hX
  replace hXl := Lib.hid hXl
  replace hsc := Lib.hid hsc
  replace hl2 := Lib.hid hl2
  generalize laidB seq d = LB at *
  generalize laidX seq d = LX at *
  generalize leB 4 (d.length : Int) = L4 at *
  generalize leB 8 (seq : Int) = L8 at *
  replace hu1 := Lib.hid hu1
  replace hu2 := Lib.hid hu2
  go_enter Tryz.func57, Tryz.ntmps57
  go_upto_region 1 with fail
  generalize w.alloc (.cells #[.int .i64 (seq : Int), .string s] 49) = w0 at *
  replace hu1 := hu1.out
  replace hu2 := hu2.out
  have BD := (Below.refl w0.heap.size w0).drew
  have BW := below_chain hb1 BD hz
  have S00 : w0.cell? ⟨w.heap.size, 0, none⟩ = some (.int .i64 (seq : Int)) ∧ w0.cell? ⟨w.heap.size, 1, none⟩ = some (.string s) := ⟨c0, c1⟩
  have S0 := two_held' S00 BD
  go_region_held3 (fun w' => w'.cell? ⟨w.heap.size, 0, none⟩ = some (.int .i64 (seq : Int)) ∧ w'.cell? ⟨w.heap.size, 1, none⟩ = some (.string s))
    (first | (with_reducible exact S0) | (with_reducible exact two_held' S00 X1) | (with_reducible exact two_held' S00 X2))
    (first
    | (go_at_call 90; (with_reducible refine (h1.out _ BW).mono ?_); rintro e x1 ⟨v1, rfl, HO1, hg1, hat1⟩; have X1 := BD.grown hg1 (Nat.le_refl _) (fun k hk => by simp [Value.ownBlock] at hk); have Y1 := below_chain hb1 X1 hz)
    | (go_at_call 89; (with_reducible refine (h2.out _ _ HO1 Y1.size).mono ?_); rintro e x2 ⟨v2, rfl, HO2, hg2, hat2⟩; have Y2 := Y1.grown hg2 Y1.size (fun k hk => (own_lt' HO1 k hk).1); have X2 := X1.grown hg2 X1.size (fun k hk => new_block hat1 hk)))
  have e0 : x2.cell? ⟨w.heap.size, 0, none⟩ = some (.int .i64 (seq : Int)) := below_cell X2 c0
  have e1 : x2.cell? ⟨w.heap.size, 1, none⟩ = some (.string s) := below_cell X2 c1
  have hz2' := Y2.size
  have hn1 : (L4 ++ L8).length + s.size ≤ maxLen := by rw [hl2.out]; have := hs2.out; simp only [maxLen]; omega
  have hn2 : (L4 ++ L8).length + s.size ≤ 140737488355328 := by rw [hl2.out]; have := hs2.out; omega
  replace hn1 := Lib.hid hn1
  replace hn2 := Lib.hid hn2
  clear c0 c1 hu1 hu2 hsz
  go_wp2_with (at_builtin; refine Lib.wpList_append_own_string _ rfl (.tmp 13) (.tmp 15) 69 9 rfl w.heap.size 5 i0 Tryz.underlying69 Tryz.underlying9 hi hz0 hz1 hz2 v2 (L4 ++ L8).length (bytesV (L4 ++ L8)) rfl HO2 s rfl hn1.out hn2.out hz2' ?_; intro v3 x3 HO3 hg3 _)
  rw [hXl.out, hsc.out, ← bytesV_append, hX.out] at HO3
  have Y3 : Below w.heap.size w x3 := Y2.grown hg3 Y2.size (fun k hk => (own_lt' HO2 k hk).1)
  refine (h3.out v3 x3 HO3 Y3.size).mono ?_
  rintro e x4 ⟨v4, rfl, HO4, hg4, _⟩
  have Y4 : Below w.heap.size w x4 := Y3.grown hg4 Y3.size (fun k hk => (own_lt' HO3 k hk).1)
  go_wp2_with fail
  go_ret
  exact ⟨v4, rfl, HO4, Y4⟩
end Go.Proofs.YtejbfglaalmafaaGreatDoor
