/- The contract of Crash on a disk whose files and names are safe: nothing is lost. -/
import Derived.Test.YtejbfglaalmafaaGreatDoorLDir
namespace Go.Proofs.YtejbfglaalmafaaGreatDoor
open Go.RowKit
open Go.Maps (Keyed)
set_option linter.unusedVariables false

/-- What the crash has laid anew: the first j files. -/
structure Mid (w wr : World) (dk nm sm k N : Nat) (G : Nat → Nat) (S : Nat → List UInt8) (st : Int) (j n : Nat) (Gj : Nat → Nat) : Prop where
  hd : Disk wr dk 4194304 nm sm (.slice none 0 0) st
  hm : NMap wr nm n (DK k Gj)
  hn : n ≤ N + j
  hold : ∀ i, j ≤ i → i < k → Gj i = G i
  hnew : ∀ i, i < j → w.heap.size ≤ Gj i ∧ Gj i < wr.heap.size
  hf : ∀ i, i < k → FileAt wr (Gj i) (S i) ((S i).length : Int)
  hi : ∀ a b, a < k → b < k → Gj a = Gj b → a = b
  fr : Fr (fun i => i = dk) w wr
  nw : w.heap.size ≤ nm
section
variable {w wr : World} {dk nm sm k N : Nat} {G : Nat → Nat} {S : Nat → List UInt8} {st : Int} {j n : Nat} {Gj : Nat → Nat}
theorem Mid.keep {w2 : World} (h : Mid w wr dk nm sm k N G S st j n Gj) {bb : Nat} {t : TypeId} {cs : Array Value} (hbk : Blk wr bb t cs) (h1 : t ≠ 57) (h2 : t ≠ 94) (h3 : t ≠ 5) (hbn : w.heap.size ≤ bb) (hg : wr.grownBy w2 (some bb)) : Mid w w2 dk nm sm k N G S st j n Gj :=
  { h with
    hd := Blk.grown h.hd hg (fun e => by injection e with e; subst e; exact h1 (blk_ty hbk h.hd))
    hm := World.ownsMap.kept h.hm hg (fun e => by injection e with e; subst e; exact blk_nmap hbk h.hm)
    hnew := fun i hi => ⟨(h.hnew i hi).1, Nat.lt_of_lt_of_le (h.hnew i hi).2 hg.size⟩
    hf := fun i hi => (h.hf i hi).fr (own := fun q => q = bb) (Fr.step (Fr.refl _ wr) hg (fun q e => by injection e with e; exact .inl e.symm)) (fun e => by
      obtain ⟨ds, hb⟩ := (h.hf i hi).blk
      rw [e] at hb
      exact h2 (blk_ty hbk hb)) (fun q ds e hb => by rw [e] at hb; exact h3 (blk_ty hbk hb))
    fr := h.fr.step hg (fun q e => by injection e with e; exact .inr (by omega)) }
theorem Mid.below {w2 : World} (h : Mid w wr dk nm sm k N G S st j n Gj) (hb : Below wr.heap.size wr w2) : Mid w w2 dk nm sm k N G S st j n Gj :=
  { h with
    hd := Blk.below h.hd hb (Blk.lt h.hd)
    hm := World.ownsMap.kept h.hm (grown_of_below hb none) (by simp)
    hnew := fun i hi => ⟨(h.hnew i hi).1, Nat.lt_of_lt_of_le (h.hnew i hi).2 hb.size⟩
    hf := fun i hi => (h.hf i hi).fr ((Fr.refl (fun _ => False) wr).below hb) (fun e => e) (fun q ds e => e.elim)
    fr := h.fr.below hb }
theorem Mid.step {x w3 : World} {v : Value} {B : Nat} (h : Mid w wr dk nm sm k N G S st j n Gj) (hk : k ≤ 6) (hj : j < k) (hb : Below wr.heap.size wr x) (ho : x.ownsRow B 5 1 v (S j).length (bytesV (S j)))
    (hm3 : NMap w3 nm (n + 1) ((DK k Gj).put (keyL (segN j)) (.lit (.int .i64 (x.heap.size : Int))))) (hg : (x.alloc (.cells (fileV v ((S j).length : Int)) 94)).grownBy w3 (some nm)) : Mid w w3 dk nm sm k N G S st (j + 1) (n + 1) (upd Gj j x.heap.size) := by
  have hx := h.below hb
  have hfr0 : Fr (fun q => q = nm) x w3 := Fr.step (Fr.step (Fr.refl _ x) (grown_alloc x _) (by simp)) hg (fun q e => by injection e with e; exact .inl e.symm)
  have hsz : x.heap.size + 1 ≤ w3.heap.size := by have := hg.size; simp at this; omega
  have hnf : ∀ q t cs, Blk x q t cs → q ≠ nm := fun q t cs hb e => by rw [e] at hb; exact blk_nmap hb hx.hm
  have hlt : ∀ i, i < k → Gj i < x.heap.size := fun i hi => by
    obtain ⟨ds, hb⟩ := (hx.hf i hi).blk
    exact hb.lt
  exact {
    hd := hfr0.blk hx.hd (hnf _ _ _ hx.hd)
    hm := by rw [dk_old k Gj hk j hj] at hm3; exact hm3
    hn := by have := h.hn; omega
    hold := fun i h1 h2 => by rw [upd_ne _ _ (by omega)]; exact h.hold i (by omega) h2
    hnew := fun i hi => by
      by_cases e : i = j
      · rw [e, upd_at]
        exact ⟨by have := h.fr.size; have := hb.size; omega, by omega⟩
      · rw [upd_ne _ _ e]
        have := h.hnew i (by omega)
        have := hb.size
        omega
    hf := fun i hi => by
      by_cases e : i = j
      · rw [e, upd_at]
        refine ⟨v, B, (Blk.new x 94 _).grown hg (fun e => ?_), own_same ho (fun q ds hq => hfr0.block q hq.lt (hnf _ _ _ hq))⟩
        injection e with e
        have := World.ownsMap.lt hx.hm
        omega
      · rw [upd_ne _ _ e]
        refine (hx.hf i hi).fr hfr0 (fun e => ?_) (fun q ds e hq => hnf _ _ _ hq e)
        obtain ⟨ds, hb⟩ := (hx.hf i hi).blk
        exact hnf _ _ _ hb e
    hi := fun a c ha hc e => by
      by_cases e1 : a = j <;> by_cases e2 : c = j
      · omega
      · rw [e1, upd_at, upd_ne _ _ e2] at e
        have := hlt c hc
        omega
      · rw [e2, upd_at, upd_ne _ _ e1] at e
        have := hlt a ha
        omega
      · rw [upd_ne _ _ e1, upd_ne _ _ e2] at e
        exact h.hi a c ha hc e
    fr := (hx.fr.step (grown_alloc x _) (by simp)).step hg (fun q e => by injection e with e; exact .inr (by have := h.nw; omega))
    nw := h.nw }
end
theorem run_clear_none (a : Option Addr) (c : Nat) (ty : TypeId) (w : World) : (Builtin.clear_ #[69] ty #[.slice a 0 c]).run Tryz.prog w = .ok (.tuple #[]) w := by
  have h := Tryz.underlying69
  cases a <;> simp [Builtin.clear_, run_underlying h, Result.andThen]
theorem look_one {w : World} {b n g : Nat} {D : DataW Unit} {l : List UInt8} (h : NMap w b n D) (hs : l.length ≤ 1000000) (hat : D.atKey (keyL l) .nil = .lit (.int .i64 (g : Int))) :
    (Instr.lookup 54 (.map (some b)) (strV l) false).run Tryz.prog w = .ok (.pointer (some ⟨g, 0, none⟩)) w := by
  obtain ⟨es, clock, hb, F, _, rfl⟩ := h
  have hsz : (ByteArray.mk l.toArray).size ≤ maxLen := by simp only [ByteArray.size, List.size_toArray, maxLen]; omega
  have hkey := WideMaps.keyOf_string_mk Tryz.underlying9 hsz
  rcases Maps.fit_look false (Maps.string_keyed Tryz.underlying9) Tryz.underlying54 (zero_file w) hb F hkey with ⟨hrun, _, hn⟩ | ⟨e0, y, _, _, hrun, hRv, hy, _⟩
  · have h1 := hn .nil
    rw [show (Lit.string (ByteArray.mk l.toArray).data.toList) = keyL l from rfl, hat] at h1
    simp at h1
  · have h1 := hy .nil
    rw [show (Lit.string (ByteArray.mk l.toArray).data.toList) = keyL l from rfl, hat] at h1
    have hv := ptrElem_inv (v := e0.val) (g := g) (ps := y.2) (by rw [hRv, h1])
    rw [hv] at hrun
    exact hrun
theorem names_mid {w : World} {dk nm sm : Nat} {room st : Int} {ch : Value} {k n : Nat} {G : Nat → Nat} (hd : Disk w dk room nm sm ch st) (hm : NMap w nm n (DK k G)) (hk : k ≤ 6) :
    Calls Tryz.prog 16 #[.pointer (some ⟨dk, 0, none⟩)] w (NamesP w k) := by
  have h1 := Lib.hid (ready_ok dk room nm sm ch st w hd)
  have h2 := Lib.hid (callsIn_wide.1 (Tryz.maps_Keys_43 (some nm) w))
  have h3 := Lib.hid (callsIn_wide.1 (Tryz.slices_Sorted_keys_42_43 nm n (DK k G) ptrElem w hm (by rw [dk_size]; simp only [maxLen]; omega) (by rw [dk_size]; omega)))
  have c1 := Disk.c1 hd
  go_enter Tryz.func16, Tryz.ntmps16
  go_wp2_with fail
  refine h1.out.mono ?_
  rintro e w0 ⟨rfl, rfl⟩
  go_wp2_with fail
  refine h2.out.mono ?_
  rintro e w1 ⟨rfl, rfl⟩
  go_wp2_with fail
  refine h3.out.mono ?_
  rintro e w1 ⟨v, ss, rfl, hp, ho, hnil, hb⟩
  have hlen : ss.length = k := by rw [hp.length_eq]; simp [strKeys, DK]
  have hsort := segs_sorted k G (by omega) ss hp
  go_wp2_with fail
  go_ret
  rw [hsort, List.map_map, hlen] at ho
  refine ⟨v, _, rfl, ?_, ho, fun e => hnil.2 (List.eq_nil_of_length_eq_zero (by omega)), ?_⟩
  · simp
  · exact below_chain (below_alloc1 w _) hb (by simp)
/-- The choices that are left. -/
def Cho2 (w : World) (bb : Nat) (l : List Int) : Prop := (l = [] ∧ ∃ A c, Blk w bb 24 #[.slice A 0 c]) ∨ Cho w bb l
theorem Cho2.blk {w : World} {bb : Nat} {l : List Int} (h : Cho2 w bb l) : ∃ cs, Blk w bb 24 cs := by
  rcases h with ⟨_, A, c, h⟩ | ⟨A, c, h, _⟩
  · exact ⟨_, h⟩
  · exact ⟨_, h⟩
def Next2 (w : World) (bb : Nat) (e : Ending) (w' : World) : Prop := ∃ x l, e = .returned (.int .i64 x) ∧ Cho2 w' bb l ∧ w.grownBy w' (some bb)
set_option maxRecDepth 100000 in
theorem next2_ok (bb : Nat) (l : List Int) (w : World) (h : Cho2 w bb l) :
    Calls Tryz.prog 30 #[.pointer (some ⟨bb, 0, none⟩)] w (Next2 w bb) := by
  rcases h with ⟨rfl, A, c, h⟩ | h
  · have hend : Next2 w bb (.returned (.int .i64 0)) w := ⟨0, [], rfl, .inl ⟨rfl, A, c, h⟩, grown_refl w _⟩
    have c0 := h.cell 0
    simp only [List.getElem?_toArray, List.getElem?_cons_zero] at c0
    go_enter Tryz.func30, Tryz.ntmps30
    go_wp2_with fail
    go_ret
    exact hend
  · refine (next_ok bb l w h).mono ?_
    rintro e w' ⟨x, l1, rfl, h1, h2⟩
    exact ⟨x, l1, rfl, .inr h1, h2⟩
theorem cho_start {w : World} {A : Option Addr} {c : Nat} {l : List Int} (hc : l.length ≤ c) (hl : Row w A l) : Cho2 (w.alloc (.cells #[.slice A l.length c] 24)) w.heap.size l := by
  rcases l with _ | ⟨y, l⟩
  · exact .inl ⟨rfl, A, c, Blk.new w _ _⟩
  · refine .inr ⟨A, c, Blk.new w _ _, hc, hl.below (below_alloc1 w _), fun g o e => ?_⟩
    obtain ⟨g2, o2, e2, r2⟩ := hl 0 (by simp)
    rw [e] at e2
    have := World.block_lt_of_cell? w _ r2
    simp at e2 this
    omega
theorem Cho2.same {w w' : World} {bb : Nat} {l : List Int} (h : Cho2 w bb l) (hb : Below w.heap.size w w') : Cho2 w' bb l := by
  rcases h with ⟨rfl, A, c, h⟩ | ⟨A, c, h, h1, h2, h3⟩
  · exact .inl ⟨rfl, A, c, h.below hb h.lt⟩
  · exact .inr ⟨A, c, h.below hb h.lt, h1, h2.below hb, h3⟩
theorem wrap_len {n : Nat} (h : n ≤ 1000000) : wrap64 (n : Int) = (n : Int) := by
  simp only [wrap64]
  omega
theorem wrap_len2 {n : Nat} (h : n ≤ 1000000) : IntKind.i64.wrap (n : Int) = (n : Int) ∧ IntKind.i64.wrap ((n : Int) + 0) = (n : Int) ∧ (0 : Int) ≤ (n : Int) ∧ IntKind.i64.wrap ((n : Int) - (n : Int)) = 0 := by
  have p : (2 : Int) ^ 62 = 4611686018427387904 := by decide
  refine ⟨wraps_i64' _ (by omega) (by rw [p]; omega), ?_, by omega, ?_⟩
  · rw [Int.add_zero]
    exact wraps_i64' _ (by omega) (by rw [p]; omega)
  · rw [Int.sub_self]
    rfl
theorem wrap_zero : IntKind.i64.wrap 0 = 0 := rfl
theorem held_two {w1 w2 : World} {a1 a2 : Addr} {v1 v2 : Value} (h : w1.cell? a1 = some v1 ∧ w1.cell? a2 = some v2) (hb : Below w1.heap.size w1 w2) : w2.cell? a1 = some v1 ∧ w2.cell? a2 = some v2 := ⟨below_cell hb h.1, below_cell hb h.2⟩
theorem cell_map {w : World} {g o n : Nat} {D : DataW Unit} {v : Value} (h : NMap w g n D) (hc : w.cell? ⟨g, o, none⟩ = some v) : False := by
  obtain ⟨es, c, e⟩ := nmap_at h
  simp [World.cell?, e] at hc
theorem Cho2.put {w w' : World} {bb nm n : Nat} {D : DataW Unit} {l : List Int} (h : Cho2 w bb l) (hm : NMap w nm n D) (hg : w.grownBy w' (some nm)) : Cho2 w' bb l := by
  have hne : ∀ t cs, Blk w bb t cs → some bb ≠ some nm := fun t cs hb e => by injection e with e; rw [e] at hb; exact blk_nmap hb hm
  rcases h with ⟨rfl, A, c, h⟩ | ⟨A, c, h, h1, h2, h3⟩
  · exact .inl ⟨rfl, A, c, h.grown hg (hne _ _ h)⟩
  · refine .inr ⟨A, c, h.grown hg (hne _ _ h), h1, fun j hj => ?_, h3⟩
    obtain ⟨g, o, e, r⟩ := h2 j hj
    exact ⟨g, o, e, hg.cell r (fun e2 => by injection e2 with e2; simp only at e2; rw [e2] at r; exact cell_map hm r)⟩
def CrashP (w : World) (b dk k : Nat) (S : Nat → List UInt8) (N : Nat) (e : Ending) (w' : World) : Prop := ∃ nm G, e = .returned (.int .i64 0) ∧ w.heap.size ≤ nm ∧ DS w' b nm dk k G S (fun _ => false) false (N + 6) ∧ Ty b diskT (fun _ => False) w w'
set_option maxRecDepth 100000 in
set_option maxHeartbeats 4000000 in
theorem crash_ok {w : World} {b nm dk k : Nat} {G : Nat → Nat} {S : Nat → List UInt8} {N : Nat} (h : DS w b nm dk k G S (fun _ => false) false N) (h1k : 1 ≤ k) (hk : k ≤ 6) (hN : N ≤ 100000) (hS : ∀ i, i < k → 0 < (S i).length ∧ (S i).length ≤ 1000000) (A : Option Addr) (c : Nat) (l : List Int) (hc : l.length ≤ c) (hl : Row w A l) (hA : ∀ g o, A = some ⟨g, o, none⟩ → 0 < l.length → g < b) :
    Calls Tryz.prog 10 #[.pointer (some ⟨dk, 0, none⟩), .slice A l.length c] w (CrashP w b dk k S N) := by
  have hds := h
  obtain ⟨sm, ch, st, n, ns, D2, kk, h⟩ := h
  obtain ⟨hns, rfl, rfl⟩ := h.hz rfl
  have hlt := Blk.lt h.hd
  have hbw := h.lt
  have hbd := h.bd
  have hdw := h.hd
  have hbk0 := Blk.new w 24 #[.slice A l.length c]
  have hcho := cho_start hc hl
  have hd0 : Disk (w.alloc (.cells #[.slice A l.length c] 24)) dk 4194304 nm sm (.slice none 0 0) st := Blk.alloc h.hd _
  have hfr0 : Fr (fun i => i = dk) w (w.alloc (.cells #[.slice A l.length c] 24)) := (Fr.refl _ w).step (grown_alloc w _) (by simp)
  have hs0 : NMap (w.alloc (.cells #[.slice A l.length c] 24)) sm ns (DK k G) := World.ownsMap.alloc h.hs _
  have hsz0 : w.heap.size < (w.alloc (.cells #[.slice A l.length c] 24)).heap.size := by simp
  go_enter Tryz.func10, Tryz.ntmps10
  go_upto_region 1 with fail
  generalize w.alloc (.cells #[.slice A l.length c] 24) = w0 at *
  have c1 := Disk.c1 hd0
  have c2 := Disk.c2 hd0
  have c5 := Disk.c5 hd0
  have c6 := Disk.c6 hd0
  have f1 := Disk.free hd0 1
  have f5 := Disk.free hd0 5
  have f6 := Disk.free hd0 6
  have e5 : w0.setCell ⟨dk, 5, none⟩ (.bool false) = w0 := setCell_id c5
  have e6 : w0.setCell ⟨dk, 6, none⟩ (.int .i64 0) = w0 := setCell_id c6
  have hC1 := Lib.hid (clone_ok sm ns _ w0 hs0)
  clear hds
  go_wp2_with fail
  refine hC1.out.mono ?_
  rintro e w1 ⟨rfl, hm1, hl1, hb1⟩
  have hd1 : Disk w1 dk 4194304 nm sm (.slice none 0 0) st := Blk.below hd0 hb1 (Blk.lt hd0)
  have hcho1 := hcho.same hb1
  have hcho1A : ∀ A1 c1, Blk w1 w.heap.size 24 #[.slice A1 l.length c1] → A1 = A ∧ c1 = c := fun A1 c1 hb => by
    have h2 : Blk w1 w.heap.size 24 #[.slice A l.length c] := hbk0.below hb1 hsz0
    have e := hb.symm.trans h2
    simp only [Option.some.injEq, Obj.cells.injEq, Array.mk.injEq, List.cons.injEq, Value.slice.injEq] at e
    exact ⟨e.1.1.1, e.1.1.2.2⟩
  have hs1 : NMap w1 sm ns (DK k G) := World.ownsMap.kept hs0 (grown_of_below hb1 none) (by simp)
  have g1 := Disk.c1 hd1
  have k1 := Disk.free hd1 1
  have hfr1 : Fr (fun i => i = dk) w w1 := hfr0.below hb1
  obtain ⟨w2, hw2⟩ : ∃ w2, w2 = w1.setCell ⟨dk, 1, none⟩ (.map (some w0.heap.size)) := ⟨_, rfl⟩
  have hd2 : Disk w2 dk 4194304 w0.heap.size sm (.slice none 0 0) st := by rw [hw2]; exact Blk.set_ hd1 1 _
  have hg2 : w1.grownBy w2 (some dk) := by rw [hw2]; exact grown_set w1 _ _
  have hm2 : NMap w2 w0.heap.size ns (DK k G) := World.ownsMap.kept hm1 hg2 (fun e => by injection e with e; rw [e] at hm1; exact blk_nmap hd1 hm1)
  have hs2 : NMap w2 sm ns (DK k G) := World.ownsMap.kept hs1 hg2 (fun e => by injection e with e; rw [e] at hs1; exact blk_nmap hd1 hs1)
  have hfr2 : Fr (fun i => i = dk) w w2 := hfr1.step hg2 (fun q e => by injection e with e; exact .inl e.symm)
  have hdb : w.heap.size ≠ dk := by omega
  have hcho2 : Cho2 w2.drew w.heap.size l := by
    obtain ⟨A1, c1, hb⟩ | ⟨A1, c1, hb, q1, q2, q3⟩ := hcho1
    · obtain ⟨c2, hb⟩ := hb
      exact .inl ⟨A1, c1, c2, hb.grown (w' := w2) hg2 (by simp; exact hdb)⟩
    · have hbl := hb
      refine .inr ⟨A1, c1, hb.grown (w' := w2) hg2 (by simp; exact hdb), q1, fun j hj => ?_, q3⟩
      obtain ⟨g, o, e, r⟩ := q2 j hj
      refine ⟨g, o, e, hg2.cell r (fun e2 => ?_)⟩
      injection e2 with e2
      simp only at e2
      have h1 := (hcho1A A1 c1 hb).1
      rw [h1] at e
      have := hA g o e (by omega)
      have := h.bd
      omega
  have hN := Lib.hid (fun (x : World) (l1 : List Int) (hx : Cho2 x w.heap.size l1) => next2_ok w.heap.size l1 x hx)
  have mid0 : Mid w w2 dk w0.heap.size sm k N G S st 0 ns G := {
    hd := hd2
    hm := hm2
    hn := by omega
    hold := fun i _ _ => rfl
    hnew := fun i hi => by omega
    hf := fun i hi => by
      obtain ⟨hgj, s, hF, hsf⟩ := h.hf i hi
      have e := hsf rfl
      rw [e] at hF
      refine hF.fr hfr2 (fun e2 => ?_) (fun q ds e2 hb => ?_)
      · obtain ⟨ds, hb⟩ := hF.blk
        rw [e2] at hb
        exact absurd (blk_ty hb h.hd) (by decide)
      · rw [e2] at hb
        exact absurd (blk_ty hb h.hd) (by decide)
    hi := h.hi
    fr := hfr2
    nw := by omega }
  subst hw2
  go_upto_region 6 with fail
  generalize w1.setCell ⟨dk, 1, none⟩ (.map (some w0.heap.size)) = w2 at *
  have S0 : w2.drew.cell? ⟨dk, 3, none⟩ = some (.slice none 0 0) := hd2.c3
  have mid1 : Mid w w2.drew dk w0.heap.size sm k N G S st 0 ns G := mid0.below ((Below.refl w2.heap.size w2).drew)
  clear hcho1A hbk0 hd2 hs1 hs0 hm1 hcho1 c1 c2 c5 c6 f1 f5 f6 e5 e6 g1 k1 hm2 hs2 hd1 hd0 hC1 mid0 hfr1 hfr2
  go_region_held3 (fun w' => w'.cell? ⟨dk, 3, none⟩ = some (.slice none 0 0))
    (first | (with_reducible exact S0) | (with_reducible exact S1))
    ((first
      | (go_at_call 30; (with_reducible refine (hN.out _ _ hcho2).mono ?_); rintro e x1 ⟨cx, l1, rfl, hcho3, hg3⟩; have S1 := hg3.cell S0 (fun e => hdb (by injection e with e; exact e.symm)))
      | (go_at_call 32; (with_reducible refine (says_zero _ _).mono ?_); rintro e x2 ⟨rfl, rfl⟩)))
  have mid2 := mid1.keep (w2 := x1) (bb := w.heap.size) (t := 24) (hcho2.blk.choose_spec) (by decide) (by decide) (by decide) (Nat.le_refl _) hg3
  have hNm := Lib.hid (names_mid mid2.hd mid2.hm hk)
  have hLk := Lib.hid (fun (x : World) (n : Nat) (Gj : Nat → Nat) (j : Nat) (hj : j < k) (hx : NMap x w0.heap.size n (DK k Gj)) => look_one (l := segN j) hx (by rw [segN_len]; omega) (dk_at k Gj hk j hj _))
  clear S0 S1 mid1 hcho hcho2 hg3 hg2 hb1 hl1 hlt hsz0 hfr0 h hl
  go_wp2_with fail
  go_loopw [44] (fun u wr => u = .int .i64 0 ∧ wr = x1) (fun _ _ => 0)
  case atStart => exact ⟨rfl, rfl⟩
  case round =>
    obtain ⟨rfl, rfl⟩ := hrel
    go_wp2_with fail
    refine hNm.out.mono ?_
    rintro e w4 ⟨vn, B, rfl, hBn, HOn, -, hb4⟩
    obtain ⟨gn, capn, rfl, hgn, hgn2⟩ := own_shape HOn (by omega)
    have mid4 := mid2.below hb4
    have hcho4 := hcho3.same hb4
    have hcho3b := hcho3.blk
    clear hNm mid2 hcho3
    have hkc : (k : Int) ≤ 6 := by omega
    go_wp2_with fail
    go_loopw [58] (fun u wr => ∃ (j n : Nat) (Gj : Nat → Nat) (l2 : List Int), u = .int .i64 (j : Int) ∧ j ≤ k ∧ Mid w wr dk w0.heap.size sm k N G S st j n Gj ∧ Cho2 wr w.heap.size l2 ∧ wr.ownsRow B 9 1 (.slice (some ⟨gn, 0, none⟩) k capn) k ((List.range k).map fun i => strV (segN i)) ∧ w.heap.size < B) (fun u _ => k - (intOf u).toNat)
    case atStart => exact ⟨0, ns, G, _, rfl, Nat.zero_le _, mid4, hcho4, HOn, by have := hcho3b.choose_spec.lt; omega⟩
    case round =>
      obtain ⟨j, n4, Gj, l2, rfl, hj, mid, hcho, HO, hBw⟩ := hrel
      by_cases hjk : j < k
      · have hc0 : wr.cell? ⟨gn, j, none⟩ = some (strV (segN j)) := by
          rw [HO.cellAt j (by omega)]
          simp [hjk]
        obtain ⟨T, hT⟩ : ∃ T, strV (segN j) = .string T := ⟨_, rfl⟩
        have hlk := hLk.out wr n4 Gj j hjk mid.hm
        have hnx := Lib.hid (hN.out wr l2 hcho)
        have cd1 := Disk.c1 mid.hd
        have hgB : w.heap.size ≠ gn := by have := (own_lt' HO gn rfl).1; omega
        have hput := Lib.hid (fun (x : World) (hx : NMap x w0.heap.size n4 (DK k Gj)) (g : Nat) => put_name g (l := segN j) hx (by rw [segN_len]; omega) (by have := mid.hn; omega))
        rw [hT] at hc0 hlk
        rw [hT] at hput
        clear hLk
        go_wp2_with fail
        refine hnx.out.mono ?_
        rintro e x1 ⟨cx, l3, rfl, hcho5, hg5⟩
        have mid5 := mid.keep (w2 := x1) (bb := w.heap.size) (t := 24) (hcho.blk.choose_spec) (by decide) (by decide) (by decide) (Nat.le_refl _) hg5
        have HO5 := HO.kept hg5 (Or.inr (by simp [Value.ownBlock]; omega))
        obtain ⟨h0j, hlj⟩ := hS j hjk
        obtain ⟨A1, c1, hfb, hbr, -, hlc⟩ := (mid5.hf j hjk).parts
        obtain ⟨q, o, rfl, hq0⟩ := hbr 0 h0j
        clear hq0
        have hbr1 : BRow x1.drew (some ⟨q, o, none⟩) (S j) := hbr
        have hcl := Lib.hid (fun (x : World) (hx : BRow x (some ⟨q, o, none⟩) (S j)) => cloneB q o c1 (S j) (by omega) x hx)
        have S0 : x1.drew.cell? ⟨Gj j, 0, none⟩ = some (.slice (some ⟨q, o, none⟩) (S j).length c1) ∧ x1.drew.cell? ⟨Gj j, 1, none⟩ = some (.int .i64 ((S j).length : Int)) := ⟨hfb.cell 0, hfb.cell 1⟩
        have hlc1 : ((S j).length : Int) ≤ (c1 : Int) := Int.ofNat_le.2 hlc
        have hwl := wrap_len hlj
        have hwz := wrap_zero
        obtain ⟨hw2, hw3, hw4, hw5⟩ := wrap_len2 hlj
        have mid6 : Mid w x1.drew dk w0.heap.size sm k N G S st j n4 Gj := mid5.below ((Below.refl x1.heap.size x1).drew)
        clear hnx mid hcho HO hg5 hlk hc0 hfb hbr hN
        replace h0j := Lib.hid h0j
        clear hlj hlc
        go_upto_region 16 with fail
        go_region_held3 (fun w' => w'.cell? ⟨Gj j, 0, none⟩ = some (.slice (some ⟨q, o, none⟩) (S j).length c1) ∧ w'.cell? ⟨Gj j, 1, none⟩ = some (.int .i64 ((S j).length : Int)))
          (first | (with_reducible exact S0) | (with_reducible exact S1))
          ((first
            | (go_at_call 34; (with_reducible refine (hcl.out _ hbr1).mono ?_); rintro e x2 ⟨v2, rfl, ho2, hb2⟩; have S1 := held_two S0 hb2)
            | (go_at_call 32; (with_reducible refine (says_zero _ _).mono ?_); rintro e x2 ⟨rfl, rfl⟩)))
        replace hw4 := Lib.hid hw4
        clear hwl hw2 hw3 hw5 hwz hlc1
        obtain ⟨g2, cap2, rfl, hg2l, hg2u⟩ := own_shape ho2 h0j.out
        have hcap2 : (S j).length ≤ cap2 := by
          obtain ⟨_, (⟨e, _⟩ | ⟨_, _, _, e, _, _, e3, _⟩)⟩ := ho2
          · cases e
          · simp only [Value.slice.injEq] at e
            omega
        have hcap3 : ((S j).length : Int) ≤ (cap2 : Int) := Int.ofNat_le.2 hcap2
        have mid7 := mid6.below hb2
        have hcho7 : Cho2 x2 w.heap.size l3 := Cho2.same (w := x1.drew) (by
          rcases hcho5 with ⟨h1, A, c, h⟩ | ⟨A, c, h, h1, h2, h3⟩
          · exact .inl ⟨h1, A, c, h⟩
          · exact .inr ⟨A, c, h, h1, h2, h3⟩) hb2
        have HO7 : x2.ownsRow B 9 1 (.slice (some ⟨gn, 0, none⟩) k capn) k ((List.range k).map fun i => strV (segN i)) := World.ownsRow.kept (w := x1.drew) HO5 (grown_of_below hb2 none) (by simp [Value.ownBlock])
        have c71 := Disk.c1 mid7.hd
        obtain ⟨w3, hrun, hm3, hg3⟩ := hput.out (x2.alloc (.cells (fileV (.slice (some ⟨g2, 0, none⟩) (S j).length cap2) ((S j).length : Int)) 94)) (World.ownsMap.alloc mid7.hm _) x2.heap.size
        have mid8 := mid7.step hk hjk (Below.refl _ _) ho2 hm3 hg3
        have hcho8 : Cho2 w3 w.heap.size l3 := (hcho7.same (below_alloc1 x2 _)).put (World.ownsMap.alloc mid7.hm _) hg3
        have HO8 := (HO7.alloc (.cells (fileV (.slice (some ⟨g2, 0, none⟩) (S j).length cap2) ((S j).length : Int)) 94)).kept hg3 (Or.inr (fun e => by
          injection e with e
          obtain ⟨_, (⟨e2, _⟩ | ⟨q1, _, _, e2, _, e3, _⟩)⟩ := HO7
          · cases e2
          · simp only [Value.slice.injEq, Option.some.injEq, Addr.mk.injEq] at e2
            rw [← e2.1.1] at e3
            simp only at e
            rw [e] at e3
            obtain ⟨es, c, e4⟩ := nmap_at mid7.hm
            rw [e4] at e3
            cases e3))
        have hfv : fileV (.slice (some ⟨g2, 0, none⟩) (S j).length cap2) ((S j).length : Int) = #[.slice (some ⟨g2, 0, none⟩) (S j).length cap2, .int .i64 ((S j).length : Int)] := rfl
        rw [hfv] at hrun
        have hclr := run_clear_none
        obtain ⟨-, s71⟩ := S1
        clear hcho5 HO5 hbr1 hcl S0 mid6 hb2 hm3 hg3 hg2l hg2u hcap2 hput HO7 hcho7
        replace hw4 := hw4.out
        by_cases hcx : cx < 0
        · go_wp2_with fail
          all_goals exact ⟨⟨j + 1, n4 + 1, _, l3, rfl, hjk, mid8, hcho8, HO8, hBw⟩, meas64 hjk⟩
        · go_wp2_with fail
          exact ⟨⟨j + 1, n4 + 1, _, l3, rfl, hjk, mid8, hcho8, HO8, hBw⟩, meas64 hjk⟩
      · have hjk2 : j = k := Nat.le_antisymm hj (Nat.not_lt.1 hjk)
        subst hjk2
        have hC2 := Lib.hid (clone_ok w0.heap.size n4 _ wr mid.hm)
        have cd1 := Disk.c1 mid.hd
        clear hLk hN hcho HO hBw mid4 hcho4 hcho3b HOn
        go_wp2_with fail
        refine hC2.out.mono ?_
        rintro e w5 ⟨rfl, hm5, hl5, hb5⟩
        have mid5 := mid.below hb5
        have d2 := Disk.c2 mid5.hd
        have f2 := Disk.free mid5.hd 2
        have hd6 : Disk (w5.setCell ⟨dk, 2, none⟩ (.map (some wr.heap.size))) dk 4194304 w0.heap.size wr.heap.size (.slice none 0 0) st := Blk.set_ mid5.hd 2 _
        have d3 := Disk.c3 hd6
        have f3 := Disk.free hd6 3
        have hd7 : Disk ((w5.setCell ⟨dk, 2, none⟩ (.map (some wr.heap.size))).setCell ⟨dk, 3, none⟩ (.slice none 0 0)) dk 4194304 w0.heap.size wr.heap.size (.slice none 0 0) st := Blk.set_ hd6 3 _
        have hg7 : w5.grownBy ((w5.setCell ⟨dk, 2, none⟩ (.map (some wr.heap.size))).setCell ⟨dk, 3, none⟩ (.slice none 0 0)) (some dk) := grown_trans (grown_set w5 _ _) (grown_set _ _ _)
        have hfin : CrashP w b dk j S N (.returned (.int .i64 0)) ((w5.setCell ⟨dk, 2, none⟩ (.map (some wr.heap.size))).setCell ⟨dk, 3, none⟩ (.slice none 0 0)) := by
          have hnd : w0.heap.size ≠ dk := fun e => blk_nmap mid5.hd (by rw [← e]; exact mid5.hm)
          have hwd : wr.heap.size ≠ dk := fun e => blk_nmap mid5.hd (by rw [← e]; exact hm5)
          have hfr7 := mid5.fr.step hg7 (fun q e => by injection e with e; exact .inl e.symm)
          have hT : Ty b diskT (fun _ => False) w ((w5.setCell ⟨dk, 2, none⟩ (.map (some wr.heap.size))).setCell ⟨dk, 3, none⟩ (.slice none 0 0)) := Ty.of_fr hfr7 hbw (fun q e => by rw [e]; exact Owned.blk hdw hbd rfl)
          have hnw := mid.nw
          have hml := World.ownsMap.lt mid.hm
          have hnn := mid.hn
          refine ⟨w0.heap.size, Gj, rfl, hnw, ⟨wr.heap.size, .slice none 0 0, st, n4, n4, DK j Gj, 0, ?_⟩, hT⟩
          exact {
            hd := hd7
            hm := World.ownsMap.kept mid5.hm hg7 (by simp; exact hnd)
            hs := World.ownsMap.kept hm5 hg7 (by simp; exact hwd)
            hc := ⟨[], World.ownsRow_nil _ _ _ _⟩
            hn := by omega
            hk := by omega
            bd := hbd
            bn := by omega
            ne := by omega
            hz := fun _ => ⟨by omega, rfl, rfl⟩
            hf := fun i hi => by
              refine ⟨by have := (mid.hnew i hi).1; omega, _, (mid5.hf i hi).fr (own := fun q => q = dk) (Fr.step (Fr.refl _ w5) hg7 (fun q e => by injection e with e; exact .inl e.symm)) (fun e => ?_) (fun q ds e hb => ?_), fun _ => rfl⟩
              · obtain ⟨ds, hb⟩ := (mid5.hf i hi).blk
                rw [e] at hb
                exact absurd (blk_ty hb mid5.hd) (by decide)
              · rw [e] at hb
                exact absurd (blk_ty hb mid5.hd) (by decide)
            hi := mid.hi }
        replace hfin := Lib.hid hfin
        clear hd6 hd7 hg7 mid5 mid hdw
        go_wp2_with fail
        go_ret
        exact hfin.out
end Go.Proofs.YtejbfglaalmafaaGreatDoor
