/- The contract of (*Disk).Create, of a good name that is new. -/
import Derived.Test.YtejbfglaalmafaaGreatDoorLGood
import Derived.Maps.OwnSet
namespace Go.Proofs.YtejbfglaalmafaaGreatDoor
open Go.RowKit
set_option linter.unusedVariables false

theorem Fr.mono {own own' : Nat → Prop} {w w1 : World} (h : Fr own w w1) (hm : ∀ i, own i → own' i) : Fr own' w w1 := ⟨h.os, h.tape, h.output, h.size, fun i hi hn => h.block i hi (fun e => hn (hm i e))⟩
theorem Fr.below {own : Nat → Prop} {w w1 w2 : World} (h : Fr own w w1) (hb : Below w1.heap.size w1 w2) : Fr own w w2 := h.step (grown_of_below hb none) (by simp)
theorem Fr.blk {own : Nat → Prop} {w w1 : World} (h : Fr own w w1) {g : Nat} {t : TypeId} {cs : Array Value} (hb : Blk w g t cs) (hn : ¬ own g) : Blk w1 g t cs := (h.block g hb.lt hn).trans hb
def fileV (b : Value) (s : Int) : Array Value := #[b, .int .i64 s]
def CreatePost (own : Nat → Prop) (w : World) (dk : Nat) (room : Int) (nm sm B n k : Nat) (D : DataW Unit) (l : List UInt8) (st : Int) (e : Ending) (w' : World) : Prop :=
  ∃ (ch : Value) (g : Nat), e = .returned (.int .i64 0) ∧ Disk w' dk room nm sm ch st ∧ NMap w' nm (n + 1) (D.put (keyL l) (.lit (.int .i64 (g : Int)))) ∧ Chs w' B ch (k + 1) ∧ Blk w' g 94 (fileV (.slice none 0 0) 0) ∧ w.heap.size ≤ g ∧ Fr own w w' ∧ ∀ i, ch.ownBlock = some i → grow own w w' i
set_option maxRecDepth 100000 in
set_option maxHeartbeats 4000000 in
theorem create_ok (own : Nat → Prop) (dk : Nat) (room : Int) (nm sm : Nat) (ch : Value) (st : Int) (B n k : Nat) (D : DataW Unit) (l : List UInt8) (hn : n ≤ 1000000) (hk : k ≤ 1000000) (w : World) (hd : Disk w dk room nm sm ch st) (hm : NMap w nm n D) (hc : Chs w B ch k) (hB : B ≤ w.heap.size) (hne : nm ≠ dk) (hch : ch.ownBlock = none ∨ ch.ownBlock ≠ some nm) (hcd : ch.ownBlock ≠ some dk) (ho1 : own dk) (ho2 : own nm) (ho3 : ∀ i, ch.ownBlock = some i → own i)
    (hown : ∀ i, own i → i < w.heap.size) (hN : NameOk l) (hat : D.atKey (keyL l) .nil = .nil) (hs : Maps.size D < 64) :
    Calls Tryz.prog 54 #[.pointer (some ⟨dk, 0, none⟩), strV l] w (CreatePost own w dk room nm sm B n k D l (wrap64 (st + 1))) := by
  have hl : l.length ≤ 1000000 := Nat.le_trans hN.2.1 (by omega)
  have h1 := Lib.hid (ready_ok dk room nm sm ch st w hd)
  have h2 := Lib.hid (good_ok l hN w)
  have hlk := look_not hm hl hat
  have c1 := hd.c1
  obtain ⟨xs, HO⟩ := hc
  have h3 := Lib.hid (fun (w1 : World) (hb : Below w.heap.size w w1) => change_ok own dk room nm sm ch st B n k w1.heap.size D l hN.1 hl hn hk (w1.alloc (.cells (fileV (.slice none 0 0) 0) 94)) (Blk.alloc (Blk.below hd hb (Blk.lt hd)) _) (World.ownsMap.alloc (World.ownsMap.kept hm (grown_of_below hb none) (by simp)) _) ⟨xs, (HO.kept (grown_of_below hb none) (by simp; exact Classical.em _)).alloc _⟩ (by have := hb.size; simp; omega) hne hch hcd ho1 ho2 ho3)
  have hlen := Lib.hid (fun (w1 : World) (hb : Below w.heap.size w w1) => World.ownsMap.len (t := 54) (World.ownsMap.kept hm (grown_of_below hb none) (by simp)) Tryz.underlying54 3)
  have hcc := Lib.hid (fun (w1 : World) (hb : Below w.heap.size w w1) => Disk.c1 (Blk.below hd hb (Blk.lt hd)))
  have hcg : ∀ g, chg l g = #[.string ⟨#[]⟩, strV l, .pointer (some ⟨g, 0, none⟩)] := fun g => rfl
  have hfv : fileV (.slice none 0 0) 0 = #[.slice none 0 0, .int .i64 0] := rfl
  obtain ⟨S, hS⟩ : ∃ S, strV l = .string S := ⟨_, rfl⟩
  simp only [hcg, hfv, hS] at h3
  rw [hS] at hlk h2 ⊢
  have hz : decide ((64 : Int) ≤ (Maps.size D : Int)) = false := decide_eq_false (by omega)
  clear hcg hfv hS hat hN hl hs hd hch hcd ho3
  go_enter Tryz.func54, Tryz.ntmps54
  go_wp2_with fail
  refine h1.out.mono ?_
  rintro e w0 ⟨rfl, rfl⟩
  go_wp2_with fail
  refine h2.out.mono ?_
  rintro e w1 ⟨rfl, hb⟩
  have hlen1 := hlen.out w1 hb
  have c1 := hcc.out w1 hb
  generalize Maps.size D = m at *
  go_wp2_with fail
  refine (h3.out w1 hb).mono ?_
  rintro e w2 ⟨ch2, rfl, hd2, hm2, hc2, hf2, hi2⟩
  have hsz := hb.size
  have hs1 : (w1.alloc (.cells #[.slice none 0 0, .int .i64 0] 94)).heap.size = w1.heap.size + 1 := by simp
  have fr1 : Fr own w (w1.alloc (.cells #[.slice none 0 0, .int .i64 0] 94)) := ((Fr.refl own w).below hb).step (grown_alloc w1 _) (by simp)
  have fr2 : Fr own w w2 := fr1.trans (hf2.mono fun i hi => .inl hi)
  have hblk := hf2.blk (Blk.new w1 94 #[.slice none 0 0, .int .i64 0]) (fun e => by have := hown _ e; omega)
  go_wp2_with fail
  go_ret
  refine ⟨ch2, w1.heap.size, rfl, hd2, hm2, hc2, hblk, hsz, fr2, fun i hi => ?_⟩
  rcases hi2 i hi with h | ⟨h, h'⟩
  · exact .inl h
  · exact .inr ⟨by rw [hs1] at h; omega, h'⟩
end Go.Proofs.YtejbfglaalmafaaGreatDoor
