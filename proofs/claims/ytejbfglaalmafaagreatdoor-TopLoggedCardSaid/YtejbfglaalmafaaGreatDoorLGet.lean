/- Numbers read from bytes: the contracts of wal.get32, wal.get64, wal.whole, wal.begins. -/
import Derived.Test.YtejbfglaalmafaaGreatDoorLPut2
import Derived.Lib.EndianBits
namespace Go.Proofs.YtejbfglaalmafaaGreatDoor
open Go.RowKit
set_option linter.unusedVariables false

def val32 (l : List UInt8) (a : Nat) : Nat := nb l a + nb l (a + 1) * 256 + nb l (a + 2) * 65536 + nb l (a + 3) * 16777216
def val64 (l : List UInt8) (a : Nat) : Nat := val32 l a + val32 l (a + 4) * 4294967296
theorem val32_lt (l : List UInt8) (a : Nat) : val32 l a < 4294967296 := by
  have h0 := nb_lt l a; have h1 := nb_lt l (a + 1); have h2 := nb_lt l (a + 2); have h3 := nb_lt l (a + 3)
  unfold val32; omega
theorem or_four (b0 b1 b2 b3 : Nat) (h0 : b0 < 256) (h1 : b1 < 256) (h2 : b2 < 256) (h3 : b3 < 256) :
    bits .or .u32 (bits .or .u32 (bits .or .u32 (b0 : Int) ((b1 : Int) * 256)) ((b2 : Int) * 65536)) ((b3 : Int) * 16777216) = ((b0 + b1 * 256 + b2 * 65536 + b3 * 16777216 : Nat) : Int) := by
  have e1 : bits .or .u32 (b0 : Int) ((b1 : Int) * 256) = (b0 : Int) + (b1 : Int) * 256 := u32_or8 _ _ (by omega) (by omega) (by omega) (by omega) (by omega)
  rw [e1]
  have e2 : bits .or .u32 ((b0 : Int) + (b1 : Int) * 256) ((b2 : Int) * 65536) = (b0 : Int) + (b1 : Int) * 256 + (b2 : Int) * 65536 := u32_or16 _ _ (by omega) (by omega) (by omega) (by omega) (by omega)
  rw [e2]
  have e3 : bits .or .u32 ((b0 : Int) + (b1 : Int) * 256 + (b2 : Int) * 65536) ((b3 : Int) * 16777216) = (b0 : Int) + (b1 : Int) * 256 + (b2 : Int) * 65536 + (b3 : Int) * 16777216 := u32_or24 _ _ (by omega) (by omega) (by omega) (by omega) (by omega)
  rw [e3]
  omega

set_option maxRecDepth 100000 in
set_option maxHeartbeats 4000000 in
theorem get32_any (A : Option Addr) (l : List UInt8) (c a : Nat) (h4 : a + 4 ≤ l.length) (hl : l.length ≤ 1000000000) (w : World) (h : BRow w A l) :
    Calls Tryz.prog 49 #[.slice A l.length c, .int .i64 (a : Int)] w fun e w' => e = .returned (.tuple #[.int .u32 (val32 l a : Int), .int .i64 0]) ∧ Drawn w w' := by
  obtain ⟨g, o, rfl, c0⟩ := h a (by omega)
  obtain ⟨g1, o1, e1, c1⟩ := h (a + 1) (by omega)
  obtain ⟨g2, o2, e2, c2⟩ := h (a + 2) (by omega)
  obtain ⟨g3, o3, e3, c3⟩ := h (a + 3) (by omega)
  simp only [Option.some.injEq, Addr.mk.injEq, and_true] at e1 e2 e3
  obtain ⟨rfl, rfl⟩ := e1
  obtain ⟨rfl, rfl⟩ := e2
  obtain ⟨rfl, rfl⟩ := e3
  have hor := or_four (nb l a) (nb l (a + 1)) (nb l (a + 2)) (nb l (a + 3)) (nb_lt _ _) (nb_lt _ _) (nb_lt _ _) (nb_lt _ _)
  have hv : nb l a + nb l (a + 1) * 256 + nb l (a + 2) * 65536 + nb l (a + 3) * 16777216 = val32 l a := rfl
  rw [hv] at hor
  have b0 := nb_lt l a; have b1 := nb_lt l (a + 1); have b2 := nb_lt l (a + 2); have b3 := nb_lt l (a + 3)
  generalize nb l a = x0 at *
  generalize nb l (a + 1) = x1 at *
  generalize nb l (a + 2) = x2 at *
  generalize nb l (a + 3) = x3 at *
  replace hor := Lib.hid hor
  clear hv h
  have p0 : (0 : Int) ≤ (a : Int) := by omega
  have p1 : (a : Int) + 4 ≤ (l.length : Int) := by omega
  go_enter Tryz.func49, Tryz.ntmps49
  go_wp2_with fail
  go_quiet (fail)
  go_wp2_with fail
  go_ret2
  exact ⟨by rw [← hor.out]; rfl, ⟨nq, rfl⟩⟩
theorem or_two (x y : Nat) (hx : x < 4294967296) (hy : y < 4294967296) : bits .or .u64 (x : Int) ((y : Int) * 4294967296) = ((x + y * 4294967296 : Nat) : Int) := by
  rw [u64_or32 _ _ (by omega) (by omega) (by omega) (by omega) (by omega)]
  omega
set_option maxRecDepth 100000 in
theorem get64_any (A : Option Addr) (l : List UInt8) (c a : Nat) (h4 : a + 8 ≤ l.length) (hl : l.length ≤ 1000000000) (w : World) (h : BRow w A l) :
    Calls Tryz.prog 50 #[.slice A l.length c, .int .i64 (a : Int)] w fun e w' => e = .returned (.tuple #[.int .u64 (val64 l a : Int), .int .i64 0]) ∧ Drawn w w' := by
  have h1 := Lib.hid (get32_any A l c a (by omega) hl w h)
  have h2 := Lib.hid (fun x (hx : Drawn w x) => get32_any A l c (a + 4) (by omega) hl x (h.below (hx.below _)))
  have hor := or_two (val32 l a) (val32 l (a + 4)) (val32_lt _ _) (val32_lt _ _)
  have hv : val32 l a + val32 l (a + 4) * 4294967296 = val64 l a := rfl
  rw [hv] at hor
  have b0 := val32_lt l a
  have b1 := val32_lt l (a + 4)
  generalize val32 l a = x0 at *
  generalize val32 l (a + 4) = x1 at *
  replace hor := Lib.hid hor
  have p0 : (0 : Int) ≤ (a : Int) := by omega
  have p1 : (a : Int) ≤ 1000000000 := by omega
  have q0 : (x0 : Int) % 18446744073709551616 = (x0 : Int) := by omega
  have q1 : (x1 : Int) % 18446744073709551616 = (x1 : Int) := by omega
  have q2 : (x1 : Int) * 4294967296 % 18446744073709551616 = (x1 : Int) * 4294967296 := by omega
  have q3 : ((a + 4 : Nat) : Int) = (a : Int) + 4 := by omega
  rw [q3] at h2
  clear hv b0 b1 h4 hl q3
  go_enter Tryz.func50, Tryz.ntmps50
  go_wp2_with fail
  refine h1.out.mono ?_
  rintro e w1 ⟨rfl, hD1⟩
  go_wp2_with fail
  refine (h2.out w1 hD1).mono ?_
  rintro e w2 ⟨rfl, hD2⟩
  go_wp2_with fail
  go_ret2
  refine ⟨by rw [← hor.out]; rfl, ?_⟩
  obtain ⟨n1, rfl⟩ := hD1
  obtain ⟨n2, rfl⟩ := hD2
  exact ⟨n1 + n2, World.drewN_drewN ..⟩
theorem BRow.take {w : World} {A : Option Addr} {l : List UInt8} (h : BRow w A l) (n : Nat) : BRow w A (l.take n) := fun j hj => by
  rw [List.length_take] at hj
  obtain ⟨g, o, h1, h2⟩ := h j (by omega)
  refine ⟨g, o, h1, ?_⟩
  rw [h2, nb, nb, List.getD_eq_getElem?_getD, List.getD_eq_getElem?_getD, List.getElem?_take_of_lt (by omega)]
theorem BRow.drop {w : World} {g o : Nat} {l : List UInt8} (h : BRow w (some ⟨g, o, none⟩) l) (n : Nat) : BRow w (some ⟨g, o + n, none⟩) (l.drop n) := fun j hj => by
  rw [List.length_drop] at hj
  obtain ⟨g1, o1, h1, h2⟩ := h (n + j) (by omega)
  simp only [Option.some.injEq, Addr.mk.injEq, and_true] at h1
  obtain ⟨rfl, rfl⟩ := h1
  refine ⟨g, o + n, rfl, ?_⟩
  rw [Nat.add_assoc, h2, nb, nb, List.getD_eq_getElem?_getD, List.getD_eq_getElem?_getD, List.getElem?_drop]
set_option maxRecDepth 100000 in
theorem whole_any (A : Option Addr) (l : List UInt8) (c m : Nat) (hm : l.length = m + 4) (hc : l.length ≤ c) (hl : l.length ≤ 1000000000) (hw : (val32 l m : Int) = crcN (l.take m)) (w : World) (h : BRow w A l) :
    Calls Tryz.prog 48 #[.slice A l.length c] w fun e w' => e = .returned (.bool true) ∧ Drawn w w' := by
  have h1 := Lib.hid (get32_any A l c m (by omega) hl w h)
  have htl : (l.take m).length = m := by rw [List.length_take]; omega
  have h2 := Lib.hid (fun x (hx : Drawn w x) => sum_any A (l.take m) c (by omega) x ((h.take m).below (hx.below _)))
  rw [htl] at h2
  rw [hw] at h1
  rw [hm] at h1 ⊢
  obtain ⟨g, o, rfl, _⟩ := h m (by omega)
  generalize crcN (l.take m) = x at *
  have p0 : (0 : Int) ≤ (m : Int) := by omega
  have p1 : (m : Int) ≤ 1000000000 := by omega
  have p2 : (m : Int) ≤ (c : Int) := by omega
  have p3 : ((m + 4 : Nat) : Int) - 4 = (m : Int) := by omega
  clear htl hw hl hc h
  go_enter Tryz.func48, Tryz.ntmps48
  go_wp2_with fail
  refine h1.out.mono ?_
  rintro e w1 ⟨rfl, hD1⟩
  go_wp2_with fail
  refine (h2.out w1 hD1).mono ?_
  rintro e w2 ⟨rfl, rfl⟩
  go_wp2_with fail
  go_ret
  exact ⟨rfl, hD1⟩
set_option maxRecDepth 100000 in
theorem begins_any (A : Option Addr) (l : List UInt8) (c first : Nat) (h16 : 16 ≤ l.length) (hc : l.length ≤ c) (hl : l.length ≤ 1000000000) (hw : (val32 (l.take 16) 12 : Int) = crcN ((l.take 16).take 12)) (hmark : val32 l 0 = 1818326888) (hfirst : val64 l 4 = first) (hf : first ≤ 1000000000000) (w : World) (h : BRow w A l) :
    Calls Tryz.prog 20 #[.slice A l.length c] w fun e w' => e = .returned (.tuple #[.int .i64 (first : Int), .bool true]) ∧ Drawn w w' := by
  have ht : (l.take 16).length = 16 := by rw [List.length_take]; omega
  have h1 := whole_any A (l.take 16) c 12 (by rw [ht]) (by rw [ht]; omega) (by rw [ht]; omega) hw w (h.take 16)
  rw [ht] at h1
  replace h1 := Lib.hid h1
  have h2 := Lib.hid (fun x (hx : Drawn w x) => get32_any A l c 0 (by omega) hl x (h.below (hx.below _)))
  have h3 := Lib.hid (fun x (hx : Drawn w x) => get64_any A l c 4 (by omega) hl x (h.below (hx.below _)))
  rw [hmark] at h2
  rw [hfirst] at h3
  obtain ⟨g, o, rfl, _⟩ := h 0 (by omega)
  have p0 : (16 : Int) ≤ (l.length : Int) := by omega
  have p1 : (16 : Int) ≤ (c : Int) := by omega
  have p2 : wrap64 (first : Int) = (first : Int) := by simp only [wrap64]; omega
  have p3 : (first : Int) ≤ 1000000000000 := by omega
  clear ht hw hl hc h hmark hfirst h16
  go_enter Tryz.func20, Tryz.ntmps20
  go_wp2_with fail
  refine h1.out.mono ?_
  rintro e w1 ⟨rfl, hD1⟩
  go_wp2_with fail
  refine (h2.out w1 hD1).mono ?_
  rintro e w2 ⟨rfl, hD2⟩
  have hD3 : Drawn w w2 := by
    obtain ⟨n1, rfl⟩ := hD1
    obtain ⟨n2, rfl⟩ := hD2
    exact ⟨n1 + n2, World.drewN_drewN ..⟩
  go_wp2_with fail
  refine (h3.out w2 hD3).mono ?_
  rintro e w3 ⟨rfl, hD4⟩
  have hD5 : Drawn w w3 := by
    obtain ⟨n1, rfl⟩ := hD3
    obtain ⟨n2, rfl⟩ := hD4
    exact ⟨n1 + n2, World.drewN_drewN ..⟩
  go_wp2_with fail
  go_ret2
  exact ⟨rfl, hD5⟩
end Go.Proofs.YtejbfglaalmafaaGreatDoor
