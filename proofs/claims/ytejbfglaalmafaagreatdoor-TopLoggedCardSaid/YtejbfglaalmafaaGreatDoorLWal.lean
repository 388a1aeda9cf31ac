/- The words for a log's state; the contract of (*Log).Last. -/
import Derived.Test.YtejbfglaalmafaaGreatDoorLCrash
namespace Go.Proofs.YtejbfglaalmafaaGreatDoor
open Go.RowKit
set_option linter.unusedVariables false

def walT (t : TypeId) : Bool := t == 60 || t == 79 || t == 77
def wsT (t : TypeId) : Bool := diskT t || walT t
/-- The number of a segment's first record. -/
def fiN (ds : Nat → List (List UInt8)) : Nat → Nat
  | 0 => 1
  | i + 1 => fiN ds i + (ds i).length
def segS (ds : Nat → List (List UInt8)) (i : Nat) : List UInt8 := segB (fiN ds i) (ds i)
def segV (nm : List UInt8) (a c n : Nat) (f : Bool) : Array Value := #[strV nm, .int .i64 (a : Int), .int .i64 (c : Int), .int .i64 (n : Int), .bool f]
def logV (dk : Nat) (v : Value) (sy : Int) (Z : Bool) (f : Nat) : Array Value := #[.pointer (some ⟨dk, 0, none⟩), v, .int .i64 sy, .bool Z, .int .i64 (f : Int)]
def ptrs (Q : Nat → Nat) (k : Nat) : List Value := (List.range k).map fun i => .pointer (some ⟨Q i, 0, none⟩)
structure LGx (w : World) (b dk lg k : Nat) (Q : Nat → Nat) (ds : Nat → List (List UInt8)) (F : Nat → Bool) (Z : Bool) (v : Value) (sy : Int) : Prop where
  hl : Blk w lg 60 (logV dk v sy Z k)
  hv : w.ownsRow b 77 1 v k (ptrs Q k)
  hs : ∀ i, i < k → b ≤ Q i ∧ Blk w (Q i) 79 (segV (segN i) (fiN ds i) (fiN ds (i + 1)) (segS ds i).length (F i))
  hi : ∀ i j, i < k → j < k → Q i = Q j → i = j
  bl : b ≤ lg
/-- A log of k segments on a disk: the texts of their records; what is not safe. -/
def WS (w : World) (b nm dk lg k : Nat) (G Q : Nat → Nat) (ds : Nat → List (List UInt8)) (F : Nat → Bool) (Z : Bool) (N : Nat) : Prop := (∃ v sy, LGx w b dk lg k Q ds F Z v sy) ∧ DS w b nm dk k G (segS ds) F Z N
section
variable {w w' : World} {b nm dk lg k : Nat} {G Q : Nat → Nat} {ds : Nat → List (List UInt8)} {F : Nat → Bool} {Z : Bool} {N : Nat} {v : Value} {sy : Int}
theorem LGx.ty (h : LGx w b dk lg k Q ds F Z v sy) {T : TypeId → Bool} {M : Nat → Prop} {c : Nat} (hT : Ty c T M w w') (h1 : T 60 = false) (h2 : T 79 = false) (h3 : T 77 = false) : LGx w' b dk lg k Q ds F Z v sy where
  hl := hT.blk h.hl h1
  hv := hT.own h.hv h3
  hs := fun i hi => ⟨(h.hs i hi).1, hT.blk (h.hs i hi).2 h2⟩
  hi := h.hi
  bl := h.bl
theorem LGx.lt (h : LGx w b dk lg k Q ds F Z v sy) : b ≤ w.heap.size := by
  have h1 := h.hl.lt
  have h2 := h.bl
  omega
theorem LGx.below (h : LGx w b dk lg k Q ds F Z v sy) (hb : Below w.heap.size w w') : LGx w' b dk lg k Q ds F Z v sy := h.ty (T := fun _ => false) (M := fun _ => False) (Ty.of_below hb h.lt) rfl rfl rfl
theorem WS.below (h : WS w b nm dk lg k G Q ds F Z N) (hb : Below w.heap.size w w') : WS w' b nm dk lg k G Q ds F Z N := by
  obtain ⟨⟨v, sy, h1⟩, h2⟩ := h
  exact ⟨⟨v, sy, h1.below hb⟩, h2.below hb⟩
theorem WS.size (h : WS w b nm dk lg k G Q ds F Z N) : b ≤ w.heap.size := h.2.size
theorem WS.ty (h : WS w b nm dk lg k G Q ds F Z N) {T : TypeId → Bool} (hT : Ty b T (fun _ => False) w w') (h1 : ∀ t, wsT t = true → T t = false) (h2 : T 5 = false) : WS w' b nm dk lg k G Q ds F Z N := by
  obtain ⟨⟨v, sy, h3⟩, h4⟩ := h
  exact ⟨⟨v, sy, h3.ty hT (h1 _ rfl) (h1 _ rfl) (h1 _ rfl)⟩, h4.ty hT (h1 _ rfl) (h1 _ rfl) (h1 _ rfl) h2⟩
/-- What a walk over the last segment wants to know. -/
theorem LGx.last (h : LGx w b dk lg k Q ds F Z v sy) {m : Nat} (hk : k = m + 1) : ∃ gv cap, v = .slice (some ⟨gv, 0, none⟩) k cap ∧ k ≤ cap ∧ w.cell? ⟨lg, 0, none⟩ = some (.pointer (some ⟨dk, 0, none⟩)) ∧ w.cell? ⟨lg, 1, none⟩ = some (.slice (some ⟨gv, 0, none⟩) k cap) ∧ w.cell? ⟨gv, m, none⟩ = some (.pointer (some ⟨Q m, 0, none⟩)) ∧
    w.cell? ⟨Q m, 0, none⟩ = some (strV (segN m)) ∧ w.cell? ⟨Q m, 2, none⟩ = some (.int .i64 (fiN ds k : Int)) ∧ w.cell? ⟨Q m, 3, none⟩ = some (.int .i64 ((segS ds m).length : Int)) := by
  have ho := h.hv
  obtain ⟨_, (⟨e, e2⟩ | ⟨gv, cap, cur, rfl, _, _, hc, _⟩)⟩ := h.hv
  · omega
  · have hb := (h.hs m (by omega)).2
    refine ⟨gv, cap, rfl, hc, h.hl.cell 0, h.hl.cell 1, ?_, hb.cell 0, ?_, hb.cell 3⟩
    · rw [ho.cellAt m (by omega)]
      simp [ptrs, hk]
    · rw [hk]
      exact hb.cell 2
end
theorem pred64 {k m : Nat} (h : k = m + 1) (hk : k ≤ 1000000) : IntKind.i64.wrap ((k : Int) - 1) = (m : Int) ∧ wrap64 ((k : Int) - 1) = (m : Int) := by
  have e : (k : Int) - 1 = (m : Int) := by omega
  have p : (2 : Int) ^ 62 = 4611686018427387904 := by decide
  rw [e]
  exact ⟨wraps_i64' _ (by omega) (by rw [p]; omega), by simp only [wrap64]; omega⟩
theorem ne_zero {k m : Nat} (h : k = m + 1) : ¬ k = 0 ∧ decide ((k : Int) = 0) = false ∧ ((k : Int) == 0) = false ∧ (m : Int) < (k : Int) ∧ m < k := ⟨by omega, decide_eq_false (by omega), by simp; omega, by omega, by omega⟩
theorem fiN_pos (ds : Nat → List (List UInt8)) (i : Nat) : 1 ≤ fiN ds i := by
  induction i with
  | zero => exact Nat.le_refl _
  | succ i ih => rw [fiN]; omega
set_option maxRecDepth 100000 in
set_option maxHeartbeats 4000000 in
theorem last_ok {w : World} {b dk lg k : Nat} {Q : Nat → Nat} {ds : Nat → List (List UInt8)} {F : Nat → Bool} {Z : Bool} {v : Value} {sy : Int} (h : LGx w b dk lg k Q ds F Z v sy) (hN : fiN ds k ≤ 1000000) (hk6 : k ≤ 6) :
    Calls Tryz.prog 21 #[.pointer (some ⟨lg, 0, none⟩)] w fun e w' => e = .returned (.int .i64 ((fiN ds k - 1 : Nat) : Int)) ∧ Below w.heap.size w w' := by
  rcases Nat.eq_zero_or_pos k with hk | hk
  · subst hk
    obtain ⟨_, (⟨rfl, e2⟩ | ⟨gv, cap, cur, rfl, _⟩)⟩ := h.hv
    · have c1 : w.cell? ⟨lg, 1, none⟩ = some (.slice none 0 0) := h.hl.cell 1
      have hfin : fiN ds 0 - 1 = 0 := rfl
      rw [hfin]
      clear hN hk6 h
      go_enter Tryz.func21, Tryz.ntmps21
      go_wp2_with fail
      go_ret
      exact ⟨rfl, Below.refl _ _⟩
    · have c1 : w.cell? ⟨lg, 1, none⟩ = some (.slice (some ⟨gv, 0, none⟩) 0 cap) := h.hl.cell 1
      have hfin : fiN ds 0 - 1 = 0 := rfl
      rw [hfin]
      clear hN hk6 h
      go_enter Tryz.func21, Tryz.ntmps21
      go_wp2_with fail
      go_ret
      exact ⟨rfl, Below.refl _ _⟩
  · obtain ⟨m, hk⟩ : ∃ m, k = m + 1 := ⟨k - 1, by omega⟩
    obtain ⟨gv, cap, rfl, hc, c0, c1, c2, c3, c4, c5⟩ := h.last hk
    have hf1 := fiN_pos ds k
    obtain ⟨q, hq⟩ : ∃ q, fiN ds k = q + 1 := ⟨fiN ds k - 1, by omega⟩
    obtain ⟨p1, p2⟩ := pred64 hk (by omega)
    obtain ⟨p3, p4⟩ := pred64 hq hN
    obtain ⟨n1, n2, n3, n4, n5⟩ := ne_zero hk
    have hend : fiN ds k - 1 = q := by clear p1 p2 p3 p4 n2 n3; omega
    rw [hend]
    have hc' : (k : Int) ≤ (cap : Int) := Int.ofNat_le.2 hc
    generalize fiN ds k = f at *
    clear hN hk6 h hk hq hend hf1 c3 c5
    go_enter Tryz.func21, Tryz.ntmps21
    go_wp2_with fail
    go_region
    go_wp2_with fail
    go_ret
    exact ⟨rfl, (Below.refl _ _).drew⟩
end Go.Proofs.YtejbfglaalmafaaGreatDoor
