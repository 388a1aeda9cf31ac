/- The words for the state of a disk that holds a log's segments; frames by the types of blocks. -/
import Derived.Test.YtejbfglaalmafaaGreatDoorLNew
namespace Go.Proofs.YtejbfglaalmafaaGreatDoor
open Go.RowKit
set_option linter.unusedVariables false

theorem blk_ty {w : World} {g : Nat} {t u : TypeId} {cs ds : Array Value} (h : Blk w g t cs) (k : Blk w g u ds) : t = u := by
  have e := h.symm.trans k
  simp only [Option.some.injEq, Obj.cells.injEq] at e
  exact e.2.1
theorem blk_map {w : World} {g : Nat} {t : TypeId} {cs : Array Value} {es : Array MapEntry} {c : Nat} (h : Blk w g t cs) (k : w.heap[g]? = some (.map es c)) : False := by
  have e := h.symm.trans k
  simp at e
/-- A block's value as it was. -/
def Same (w w' : World) (i : Nat) : Prop := w'.heap[i]? = w.heap[i]?
/-- What may turn: blocks not below b of the types that T tells; the maps that M tells. -/
structure Ty (b : Nat) (T : TypeId → Bool) (M : Nat → Prop) (w w' : World) : Prop where
  os : w'.os = w.os
  tape : w'.tape = w.tape
  output : w'.output = w.output
  size : w.heap.size ≤ w'.heap.size
  low : ∀ i, i < b → w'.heap[i]? = w.heap[i]?
  row : ∀ i t cs, Blk w i t cs → T t = false → w'.heap[i]? = w.heap[i]?
  map : ∀ i es c, w.heap[i]? = some (.map es c) → ¬ M i → w'.heap[i]? = w.heap[i]?
section
variable {b : Nat} {T T' : TypeId → Bool} {M M' : Nat → Prop} {w w1 w2 w' : World}
theorem Ty.refl : Ty b T M w w := ⟨rfl, rfl, rfl, Nat.le_refl _, fun _ _ => rfl, fun _ _ _ _ _ => rfl, fun _ _ _ _ _ => rfl⟩
theorem Ty.trans (h : Ty b T M w w1) (k : Ty b T M w1 w2) : Ty b T M w w2 where
  os := k.os.trans h.os
  tape := k.tape.trans h.tape
  output := k.output.trans h.output
  size := Nat.le_trans h.size k.size
  low := fun i hi => (k.low i hi).trans (h.low i hi)
  row := fun i t cs hb ht => by
    have e := h.row i t cs hb ht
    exact (k.row i t cs (e.trans hb) ht).trans e
  map := fun i es c hb hm => by
    have e := h.map i es c hb hm
    exact (k.map i es c (e.trans hb) hm).trans e
theorem Ty.mono (h : Ty b T M w w') (hT : ∀ t, T t = true → T' t = true) (hM : ∀ i, M i → M' i) : Ty b T' M' w w' where
  os := h.os
  tape := h.tape
  output := h.output
  size := h.size
  low := h.low
  row := fun i t cs hb ht => h.row i t cs hb (by
    cases e : T t
    · rfl
    · rw [hT t e] at ht; cases ht)
  map := fun i es c hb hm => h.map i es c hb (fun e => hm (hM i e))
def Owned (b : Nat) (T : TypeId → Bool) (M : Nat → Prop) (w : World) (i : Nat) : Prop := b ≤ i ∧ (∀ t cs, Blk w i t cs → T t = true) ∧ ∀ es c, w.heap[i]? = some (.map es c) → M i
theorem Owned.blk {i : Nat} {t : TypeId} {cs : Array Value} (h : Blk w i t cs) (hb : b ≤ i) (hT : T t = true) : Owned b T M w i := ⟨hb, fun u ds k => by rw [← blk_ty h k]; exact hT, fun es c k => (blk_map h k).elim⟩
theorem Owned.map {i : Nat} {es : Array MapEntry} {c : Nat} (h : w.heap[i]? = some (.map es c)) (hb : b ≤ i) (hM : M i) : Owned b T M w i := ⟨hb, fun u ds k => (blk_map k h).elim, fun _ _ _ => hM⟩
theorem Ty.of_fr {own : Nat → Prop} (h : Fr own w w') (hb : b ≤ w.heap.size) (ho : ∀ i, own i → Owned b T M w i) : Ty b T M w w' where
  os := h.os
  tape := h.tape
  output := h.output
  size := h.size
  low := fun i hi => h.block i (by omega) (fun e => by have := (ho i e).1; omega)
  row := fun i t cs hk ht => h.block i hk.lt (fun e => by have := (ho i e).2.1 t cs hk; rw [this] at ht; cases ht)
  map := fun i es c hk hm => h.block i (Array.getElem?_eq_some_iff.1 hk).1 (fun e => hm ((ho i e).2.2 es c hk))
theorem Ty.of_below (h : Below w.heap.size w w') (hb : b ≤ w.heap.size) : Ty b T M w w' := Ty.of_fr ((Fr.refl (fun _ => False) w).below h) hb (fun i e => e.elim)
theorem Ty.of_grown {i : Nat} (h : w.grownBy w' (some i)) (hb : b ≤ w.heap.size) (ho : Owned b T M w i) : Ty b T M w w' :=
  Ty.of_fr ((Fr.refl (fun j => j = i) w).step h (fun k e => by injection e with e; exact .inl e.symm)) hb (fun j e => by rw [e]; exact ho)
theorem Ty.blk (h : Ty b T M w w') {i : Nat} {t : TypeId} {cs : Array Value} (hk : Blk w i t cs) (hT : T t = false) : Blk w' i t cs := (h.row i t cs hk hT).trans hk
theorem Ty.own (h : Ty b T M w w') {B : Nat} {e : TypeId} {size n : Nat} {v : Value} {xs : List Value} (hk : w.ownsRow B e size v n xs) (hT : T e = false) : w'.ownsRow B e size v n xs := by
  obtain ⟨h1, h2⟩ := hk
  refine ⟨h1, h2.imp id ?_⟩
  rintro ⟨g, cap, cur, e1, e2, e3, r⟩
  exact ⟨g, cap, cur, e1, e2, (h.row g e cur e3 hT).trans e3, r⟩
theorem Ty.nmap (h : Ty b T M w w') {i n : Nat} {D : DataW Unit} (hk : NMap w i n D) (hM : ¬ M i) : NMap w' i n D := by
  obtain ⟨es, c, e, r⟩ := hk
  exact ⟨es, c, (h.map i es c e hM).trans e, r⟩
theorem Ty.drew (h : Ty b T M w w') : Ty b T M w w'.drew := ⟨h.os, h.tape, h.output, h.size, h.low, h.row, h.map⟩
end
theorem nmap_at {w : World} {i n : Nat} {D : DataW Unit} (h : NMap w i n D) : ∃ es c, w.heap[i]? = some (.map es c) := by
  obtain ⟨es, c, e, _⟩ := h
  exact ⟨es, c, e⟩
theorem blk_nmap {w : World} {i n : Nat} {D : DataW Unit} {t : TypeId} {cs : Array Value} (h : Blk w i t cs) (k : NMap w i n D) : False := by
  obtain ⟨es, c, e⟩ := nmap_at k
  exact blk_map h e
/-- The name of a log's segment (of one of the first nine). -/
def segN (i : Nat) : List UInt8 := [108, 111, 103, 46, 48, 48, 48, 48, 48, UInt8.ofNat (49 + i)]
/-- A map of names that holds the first k segments. -/
def DK (k : Nat) (G : Nat → Nat) : DataW Unit := .map ((List.range k).map fun i => (keyL (segN i), .lit (.int .i64 (G i : Int))))
/-- A file's bytes, and how many of them are safe. -/
def FileAt (w : World) (g : Nat) (bs : List UInt8) (s : Int) : Prop := ∃ v B, Blk w g 94 (fileV v s) ∧ w.ownsRow B 5 1 v bs.length (bytesV bs)
theorem FileAt.blk {w : World} {g : Nat} {bs : List UInt8} {s : Int} (h : FileAt w g bs s) : ∃ cs, Blk w g 94 cs := by
  obtain ⟨v, B, h, _⟩ := h
  exact ⟨_, h⟩
theorem own_same {w w' : World} {B : Nat} {e : TypeId} {size n : Nat} {v : Value} {xs : List Value} (hk : w.ownsRow B e size v n xs) (h : ∀ i cs, Blk w i e cs → w'.heap[i]? = w.heap[i]?) : w'.ownsRow B e size v n xs := by
  obtain ⟨h1, h2⟩ := hk
  refine ⟨h1, h2.imp id ?_⟩
  rintro ⟨g, cap, cur, e1, e2, e3, r⟩
  exact ⟨g, cap, cur, e1, e2, (h g cur e3).trans e3, r⟩
theorem FileAt.fr {own : Nat → Prop} {w w' : World} {g : Nat} {bs : List UInt8} {s : Int} (h : FileAt w g bs s) (hf : Fr own w w') (hg : ¬ own g) (hu : ∀ i cs, own i → ¬ Blk w i 5 cs) : FileAt w' g bs s := by
  obtain ⟨v, B, hb, ho⟩ := h
  exact ⟨v, B, hf.blk hb hg, own_same ho (fun i cs hk => hf.block i hk.lt (fun e => hu i cs e hk))⟩
theorem FileAt.ty {b : Nat} {T : TypeId → Bool} {M : Nat → Prop} {w w' : World} {g : Nat} {bs : List UInt8} {s : Int} (h : FileAt w g bs s) (hf : Ty b T M w w') (h1 : T 94 = false) (h2 : T 5 = false) : FileAt w' g bs s := by
  obtain ⟨v, B, hb, ho⟩ := h
  exact ⟨v, B, hf.blk hb h1, hf.own ho h2⟩
theorem FileAt.parts {w : World} {g : Nat} {bs : List UInt8} {s : Int} (h : FileAt w g bs s) : ∃ A c, Blk w g 94 (fileV (.slice A bs.length c) s) ∧ BRow w A bs ∧ (A = none → bs.length = 0) ∧ bs.length ≤ c := by
  obtain ⟨v, B, hb, ho⟩ := h
  have ho' := ho
  obtain ⟨h1, (⟨rfl, h2⟩ | ⟨q, cap, cur, rfl, _, _, h4, _⟩)⟩ := ho
  · have e : bs = [] := List.eq_nil_of_length_eq_zero h2
    subst e
    exact ⟨none, 0, hb, BRow.nil_, fun _ => rfl, Nat.le_refl _⟩
  · exact ⟨some ⟨q, 0, none⟩, cap, hb, own_brow ho', fun e => by simp at e, h4⟩
def upd {α : Type} (f : Nat → α) (i : Nat) (v : α) : Nat → α := fun j => if j = i then v else f j
theorem upd_at {α : Type} (f : Nat → α) (i : Nat) (v : α) : upd f i v i = v := by simp [upd]
theorem upd_ne {α : Type} (f : Nat → α) {i j : Nat} (v : α) (h : j ≠ i) : upd f i v j = f j := by simp [upd, h]
def diskT (t : TypeId) : Bool := t == 57 || t == 94 || t == 90
structure DSx (w : World) (b nm dk k : Nat) (G : Nat → Nat) (S : Nat → List UInt8) (F : Nat → Bool) (Z : Bool) (N sm : Nat) (ch : Value) (st : Int) (n ns : Nat) (D2 : DataW Unit) (kk : Nat) : Prop where
  hd : Disk w dk 4194304 nm sm ch st
  hm : NMap w nm n (DK k G)
  hs : NMap w sm ns D2
  hc : Chs w b ch kk
  hn : n ≤ N
  hk : kk ≤ N
  bd : b ≤ dk
  bn : b ≤ nm
  ne : nm ≠ sm
  hz : Z = false → ns ≤ N ∧ D2 = DK k G ∧ ch = .slice none 0 0
  hf : ∀ i, i < k → b ≤ G i ∧ ∃ s, FileAt w (G i) (S i) s ∧ (F i = false → s = ((S i).length : Int))
  hi : ∀ i j, i < k → j < k → G i = G j → i = j
/-- A disk that holds k segments: their files' bytes; which of them are not safe; are the names not safe? -/
def DS (w : World) (b nm dk k : Nat) (G : Nat → Nat) (S : Nat → List UInt8) (F : Nat → Bool) (Z : Bool) (N : Nat) : Prop := ∃ sm ch st n ns D2 kk, DSx w b nm dk k G S F Z N sm ch st n ns D2 kk
section
variable {w w' : World} {b nm dk k : Nat} {G : Nat → Nat} {S : Nat → List UInt8} {F : Nat → Bool} {Z : Bool} {N : Nat}
theorem DS.ty (h : DS w b nm dk k G S F Z N) {T : TypeId → Bool} (hT : Ty b T (fun _ => False) w w') (h1 : T 57 = false) (h2 : T 94 = false) (h3 : T 90 = false) (h4 : T 5 = false) : DS w' b nm dk k G S F Z N := by
  obtain ⟨sm, ch, st, n, ns, D2, kk, h⟩ := h
  refine ⟨sm, ch, st, n, ns, D2, kk, ?_⟩
  obtain ⟨xs, hc⟩ := h.hc
  exact { h with
    hd := hT.blk h.hd h1
    hm := hT.nmap h.hm (fun e => e)
    hs := hT.nmap h.hs (fun e => e)
    hc := ⟨xs, hT.own hc h3⟩
    hf := fun i hi => by
      obtain ⟨h5, s, hF, hs⟩ := h.hf i hi
      exact ⟨h5, s, hF.ty hT h2 h4, hs⟩ }
theorem DS.mono (h : DS w b nm dk k G S F Z N) {N' : Nat} (hN : N ≤ N') : DS w b nm dk k G S F Z N' := by
  obtain ⟨sm, ch, st, n, ns, D2, kk, h⟩ := h
  exact ⟨sm, ch, st, n, ns, D2, kk, { h with
    hn := Nat.le_trans h.hn hN
    hk := Nat.le_trans h.hk hN
    hz := fun e => ⟨Nat.le_trans (h.hz e).1 hN, (h.hz e).2⟩ }⟩
theorem DS.drew (h : DS w b nm dk k G S F Z N) : DS w.drew b nm dk k G S F Z N := h.ty (T := fun _ => false) Ty.refl.drew rfl rfl rfl rfl
theorem DS.below (h : DS w b nm dk k G S F Z N) (hb : Below w.heap.size w w') : DS w' b nm dk k G S F Z N := by
  have hs : b ≤ w.heap.size := by
    obtain ⟨sm, ch, st, n, ns, D2, kk, h⟩ := h
    have h1 := Blk.lt h.hd
    have h2 := h.bd
    omega
  exact h.ty (T := fun _ => false) (Ty.of_below hb hs) rfl rfl rfl rfl
theorem DS.size (h : DS w b nm dk k G S F Z N) : b ≤ w.heap.size := by
  obtain ⟨sm, ch, st, n, ns, D2, kk, h⟩ := h
  have h1 := Blk.lt h.hd
  have h2 := h.bd
  omega
end
/-! Reckoning with the map of names (k below nine). -/
theorem segN_len (i : Nat) : (segN i).length = 10 := rfl
theorem key_same (i j : Nat) (hi : i < 9) (hj : j < 9) : (keyL (segN i)).sameKey (keyL (segN j)) = decide (i = j) := by
  revert i j
  have h : ∀ i : Fin 9, ∀ j : Fin 9, (keyL (segN i.val)).sameKey (keyL (segN j.val)) = decide (i.val = j.val) := by decide
  exact fun i j hi hj => h ⟨i, hi⟩ ⟨j, hj⟩
theorem key_before (i j : Nat) (hi : i < 9) (hj : j < 9) : (keyL (segN i)).before (keyL (segN j)) = decide (i < j) := by
  revert i j
  have h : ∀ i : Fin 9, ∀ j : Fin 9, (keyL (segN i.val)).before (keyL (segN j.val)) = decide (i.val < j.val) := by decide
  exact fun i j hi hj => h ⟨i, hi⟩ ⟨j, hj⟩
theorem dk_at (k : Nat) (G : Nat → Nat) (hk : k ≤ 6) (i : Nat) (hi : i < k) (z : DataW Unit) : (DK k G).atKey (keyL (segN i)) z = .lit (.int .i64 (G i : Int)) := by
  have h : k = 1 ∨ k = 2 ∨ k = 3 ∨ k = 4 ∨ k = 5 ∨ k = 6 := by omega
  have h2 : i = 0 ∨ i = 1 ∨ i = 2 ∨ i = 3 ∨ i = 4 ∨ i = 5 := by omega
  rcases h with rfl | rfl | rfl | rfl | rfl | rfl <;> rcases h2 with rfl | rfl | rfl | rfl | rfl | rfl <;> first | rfl | omega
theorem dk_not (k : Nat) (G : Nat → Nat) (hk : k < 6) (z : DataW Unit) : (DK k G).atKey (keyL (segN k)) z = z := by
  have h : k = 0 ∨ k = 1 ∨ k = 2 ∨ k = 3 ∨ k = 4 ∨ k = 5 := by omega
  rcases h with rfl | rfl | rfl | rfl | rfl | rfl <;> rfl
theorem dk_new (k : Nat) (G : Nat → Nat) (hk : k < 6) (g : Nat) : (DK k G).put (keyL (segN k)) (.lit (.int .i64 (g : Int))) = DK (k + 1) (upd G k g) := by
  have h : k = 0 ∨ k = 1 ∨ k = 2 ∨ k = 3 ∨ k = 4 ∨ k = 5 := by omega
  rcases h with rfl | rfl | rfl | rfl | rfl | rfl <;> rfl
theorem dk_old (k : Nat) (G : Nat → Nat) (hk : k ≤ 6) (i : Nat) (hi : i < k) (g : Nat) : (DK k G).put (keyL (segN i)) (.lit (.int .i64 (g : Int))) = DK k (upd G i g) := by
  have h : k = 1 ∨ k = 2 ∨ k = 3 ∨ k = 4 ∨ k = 5 ∨ k = 6 := by omega
  have h2 : i = 0 ∨ i = 1 ∨ i = 2 ∨ i = 3 ∨ i = 4 ∨ i = 5 := by omega
  rcases h with rfl | rfl | rfl | rfl | rfl | rfl <;> rcases h2 with rfl | rfl | rfl | rfl | rfl | rfl <;> first | rfl | omega
theorem dk_size (k : Nat) (G : Nat → Nat) : Maps.size (DK k G) = k := by simp [DK, Maps.size]
/-- What the map holds are the segments' files. -/
theorem dk_val (k : Nat) (G : Nat → Nat) (kl : Lit) (g : Nat) (h : ∀ z, (DK k G).atKey kl z = .lit (.int .i64 (g : Int))) : ∃ i, i < k ∧ g = G i := by
  have h1 := h .nil
  simp only [DK, DataW.atKey] at h1
  split at h1
  · rename_i p hp
    have hm := List.mem_of_find?_eq_some hp
    simp only [List.mem_map, List.mem_range] at hm
    obtain ⟨i, hi, rfl⟩ := hm
    simp only [DataW.lit.injEq, Lit.int.injEq, true_and] at h1
    exact ⟨i, hi, by omega⟩
  · cases h1
theorem seg_chars (i : Nat) (hi : i < 6) (j : Nat) (hj : j < 10) : CharOk (nb (segN i) j) := by
  have h : ∀ i : Fin 6, ∀ j : Fin 10, (97 ≤ nb (segN i.val) j.val ∧ nb (segN i.val) j.val ≤ 122) ∨ (48 ≤ nb (segN i.val) j.val ∧ nb (segN i.val) j.val ≤ 57) ∨ nb (segN i.val) j.val = 46 ∨ nb (segN i.val) j.val = 45 := by decide
  exact h ⟨i, hi⟩ ⟨j, hj⟩
theorem seg_ok (i : Nat) (hi : i < 6) : NameOk (segN i) := ⟨by rw [segN_len]; omega, by rw [segN_len]; omega, fun j hj => seg_chars i hi j (by rw [segN_len] at hj; exact hj)⟩
end Go.Proofs.YtejbfglaalmafaaGreatDoor
