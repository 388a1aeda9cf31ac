/- The contracts of Sync, Append, Create on a disk that holds a log's segments. -/
import Derived.Test.YtejbfglaalmafaaGreatDoorLState
namespace Go.Proofs.YtejbfglaalmafaaGreatDoor
open Go.RowKit
set_option linter.unusedVariables false

theorem upd_self {α : Type} (f : Nat → α) (i : Nat) : upd f i (f i) = f := by
  funext j
  unfold upd
  split
  · rename_i h; rw [h]
  · rfl
theorem chs_blk {w : World} {B k : Nat} {ch : Value} (h : Chs w B ch k) {i : Nat} (hi : ch.ownBlock = some i) : B ≤ i ∧ ∃ cs, Blk w i 90 cs := by
  obtain ⟨xs, h1, (⟨rfl, _⟩ | ⟨g, cap, cur, rfl, hg, hb, _⟩)⟩ := h
  · simp [Value.ownBlock] at hi
  · simp only [Value.ownBlock, Option.some.injEq] at hi
    subst hi
    exact ⟨hg, cur, hb⟩
section
variable {w w' : World} {b nm dk k : Nat} {G : Nat → Nat} {S : Nat → List UInt8} {F : Nat → Bool} {Z : Bool} {N sm : Nat} {ch : Value} {st : Int} {n ns : Nat} {D2 : DataW Unit} {kk : Nat}
theorem DSx.lt (h : DSx w b nm dk k G S F Z N sm ch st n ns D2 kk) : b ≤ w.heap.size := by
  have h1 := Blk.lt h.hd
  have h2 := h.bd
  omega
theorem DSx.of (h : DSx w b nm dk k G S F Z N sm ch st n ns D2 kk) : DS w b nm dk k G S F Z N := ⟨sm, ch, st, n, ns, D2, kk, h⟩
/-- One file is changed, and the steps. -/
theorem DSx.file (h : DSx w b nm dk k G S F Z N sm ch st n ns D2 kk) {i : Nat} (hi : i < k) {bs : List UInt8} {f : Bool} {s st' : Int} (hd : Disk w' dk 4194304 nm sm ch st') (hF : FileAt w' (G i) bs s) (hs : f = false → s = (bs.length : Int)) (hfr : Fr (fun j => j = G i ∨ j = dk) w w') :
    DSx w' b nm dk k G (upd S i bs) (upd F i f) Z N sm ch st' n ns D2 kk ∧ Ty b diskT (fun _ => False) w w' := by
  obtain ⟨hgb, s0, hF0, _⟩ := h.hf i hi
  obtain ⟨cs0, hb0⟩ := hF0.blk
  have hT : Ty b diskT (fun _ => False) w w' := Ty.of_fr hfr h.lt (fun j e => by
    rcases e with rfl | rfl
    · exact Owned.blk hb0 hgb rfl
    · exact Owned.blk h.hd h.bd rfl)
  have hne : ∀ j t cs, Blk w j t cs → t ≠ 94 → t ≠ 57 → w'.heap[j]? = w.heap[j]? := fun j t cs hb h1 h2 => hfr.block j hb.lt (fun e => by
    rcases e with rfl | rfl
    · exact h1 (blk_ty hb hb0)
    · exact h2 (blk_ty hb h.hd))
  obtain ⟨xs, hc⟩ := h.hc
  refine ⟨{ h with
    hd := hd
    hm := hT.nmap h.hm (fun e => e)
    hs := hT.nmap h.hs (fun e => e)
    hc := ⟨xs, own_same hc (fun j cs hb => hne j _ cs hb (by decide) (by decide))⟩
    hf := fun j hj => ?_ }, hT⟩
  by_cases hji : j = i
  · subst hji
    rw [upd_at, upd_at]
    exact ⟨hgb, s, hF, hs⟩
  · rw [upd_ne _ _ hji, upd_ne _ _ hji]
    obtain ⟨hgj, sj, hFj, hsj⟩ := h.hf j hj
    refine ⟨hgj, sj, hFj.fr hfr (fun e => ?_) (fun q cs e hb => ?_), hsj⟩
    · rcases e with e | e
      · exact hji (h.hi j i hj hi e)
      · obtain ⟨cs, hb⟩ := hFj.blk
        rw [e] at hb
        exact absurd (blk_ty hb h.hd) (by decide)
    · rcases e with rfl | rfl
      · exact absurd (blk_ty hb hb0) (by decide)
      · exact absurd (blk_ty hb h.hd) (by decide)
end
def SyncedP (w : World) (b nm dk k : Nat) (G : Nat → Nat) (S : Nat → List UInt8) (F : Nat → Bool) (Z : Bool) (N i : Nat) (e : Ending) (w' : World) : Prop := e = .returned (.int .i64 0) ∧ DS w' b nm dk k G S (upd F i false) Z N ∧ Ty b diskT (fun _ => False) w w'
theorem dsync {w : World} {b nm dk k : Nat} {G : Nat → Nat} {S : Nat → List UInt8} {F : Nat → Bool} {Z : Bool} {N : Nat} (h : DS w b nm dk k G S F Z N) (hk : k ≤ 6) (i : Nat) (hi : i < k) :
    Calls Tryz.prog 28 #[.pointer (some ⟨dk, 0, none⟩), strV (segN i)] w (SyncedP w b nm dk k G S F Z N i) := by
  obtain ⟨sm, ch, st, n, ns, D2, kk, h⟩ := h
  obtain ⟨hgb, s, hF, hs⟩ := h.hf i hi
  obtain ⟨v, B, hb, ho⟩ := hF
  obtain ⟨A, c, rfl⟩ : ∃ A c, v = .slice A (S i).length c := by
    obtain ⟨_, (⟨rfl, e⟩ | ⟨g, cap, cur, rfl, _⟩)⟩ := ho
    · exact ⟨_, _, by rw [e]⟩
    · exact ⟨_, _, rfl⟩
  refine (sync_ok dk 4194304 nm sm ch st n (G i) (DK k G) (segN i) A (S i).length c s (by rw [segN_len]; omega) w h.hd h.hm (dk_at k G hk i hi _) hb (fun e => by rw [e] at hb; exact absurd (blk_ty hb h.hd) (by decide))).mono ?_
  rintro e w' ⟨rfl, hd', hb', hfr⟩
  have hF' : FileAt w' (G i) (S i) (((S i).length : Nat) : Int) := ⟨_, B, hb', own_same ho (fun j cs hj => hfr.block j hj.lt (fun e => by
    rcases e with rfl | rfl
    · exact absurd (blk_ty hj hb) (by decide)
    · exact absurd (blk_ty hj h.hd) (by decide)))⟩
  obtain ⟨h1, h2⟩ := h.file hi (f := false) hd' hF' (fun _ => rfl) hfr
  rw [upd_self] at h1
  exact ⟨rfl, h1.of, h2⟩
def AppendedP (w : World) (b nm dk k : Nat) (G : Nat → Nat) (S : Nat → List UInt8) (F : Nat → Bool) (Z : Bool) (N i : Nat) (ys : List UInt8) (e : Ending) (w' : World) : Prop := e = .returned (.int .i64 0) ∧ DS w' b nm dk k G (upd S i (S i ++ ys)) (upd F i true) Z N ∧ Ty b diskT (fun _ => False) w w'
theorem dappend {w : World} {b nm dk k : Nat} {G : Nat → Nat} {S : Nat → List UInt8} {F : Nat → Bool} {Z : Bool} {N : Nat} (h : DS w b nm dk k G S F Z N) (hk : k ≤ 6) (i : Nat) (hi : i < k) (A2 : Option Addr) (ys : List UInt8) (cy : Nat) (hy : BRow w A2 ys) (hy0 : 0 < ys.length) (hyl : ys.length ≤ 70000) (hS : ∀ j, j < k → (S j).length ≤ 100000) :
    Calls Tryz.prog 55 #[.pointer (some ⟨dk, 0, none⟩), strV (segN i), .slice A2 ys.length cy] w (AppendedP w b nm dk k G S F Z N i ys) := by
  obtain ⟨sm, ch, st, n, ns, D2, kk, h⟩ := h
  obtain ⟨hgb, s, hF, hs⟩ := h.hf i hi
  obtain ⟨A, c, hb, hbr, hn0, hlc⟩ := hF.parts
  have hFl : Files w (DK k G) 100000 := fun kl g hg => by
    obtain ⟨j, hj, rfl⟩ := dk_val k G kl g hg
    obtain ⟨_, sj, hFj, _⟩ := h.hf j hj
    obtain ⟨Aj, cj, hbj, _⟩ := hFj.parts
    exact ⟨Aj, _, cj, sj, hbj, hS j hj⟩
  have hsz : Maps.size (DK k G) * 100000 ≤ 600000 := by rw [dk_size]; omega
  refine (append_ok dk 4194304 nm sm ch st n 100000 (G i) (DK k G) (segN i) A A2 c cy s (S i) ys (by rw [segN_len]; omega) w h.hd h.hm (dk_at k G hk i hi _) hFl (by omega) (by omega) (by omega) hb hbr hn0 hlc hy hy0 (fun e => by rw [e] at hb; exact absurd (blk_ty hb h.hd) (by decide)) (by have := hS i hi; omega)).mono ?_
  rintro e w' ⟨v, B, rfl, hd', hb', hB, ho', hfr⟩
  obtain ⟨h1, h2⟩ := h.file hi (f := true) hd' ⟨v, B, hb', ho'⟩ (fun e => by cases e) hfr
  exact ⟨rfl, h1.of, h2⟩
def CreatedP (w : World) (b nm dk k : Nat) (G : Nat → Nat) (S : Nat → List UInt8) (F : Nat → Bool) (N : Nat) (e : Ending) (w' : World) : Prop := ∃ g, e = .returned (.int .i64 0) ∧ DS w' b nm dk (k + 1) (upd G k g) (upd S k []) (upd F k true) true (N + 1) ∧ Ty b diskT (fun i => i = nm) w w'
theorem dcreate {w : World} {b nm dk k : Nat} {G : Nat → Nat} {S : Nat → List UInt8} {F : Nat → Bool} {Z : Bool} {N : Nat} (h : DS w b nm dk k G S F Z N) (hk : k < 6) (hN : N ≤ 1000000) :
    Calls Tryz.prog 54 #[.pointer (some ⟨dk, 0, none⟩), strV (segN k)] w (CreatedP w b nm dk k G S F N) := by
  obtain ⟨sm, ch, st, n, ns, D2, kk, h⟩ := h
  have hlt := h.lt
  have hdm : nm ≠ dk := fun e => blk_nmap h.hd (by rw [← e]; exact h.hm)
  have hds : sm ≠ dk := fun e => blk_nmap h.hd (by rw [← e]; exact h.hs)
  have hcm : ∀ j D n, NMap w j n D → ch.ownBlock ≠ some j := fun j D n hm e => by
    obtain ⟨_, cs, hb⟩ := chs_blk h.hc e
    exact blk_nmap hb hm
  have hcd : ch.ownBlock ≠ some dk := fun e => by
    obtain ⟨_, cs, hb⟩ := chs_blk h.hc e
    exact absurd (blk_ty hb h.hd) (by decide)
  refine (create_ok (fun j => j = dk ∨ j = nm ∨ ch.ownBlock = some j) dk 4194304 nm sm ch st b n kk (DK k G) (segN k) (by have := h.hn; omega) (by have := h.hk; omega) w h.hd h.hm h.hc hlt hdm (.inr (hcm nm _ _ h.hm)) hcd (.inl rfl) (.inr (.inl rfl)) (fun i e => .inr (.inr e)) (fun i e => ?_) (seg_ok k hk) (dk_not k G hk _) (by rw [dk_size]; omega)).mono ?_
  · rcases e with rfl | rfl | e
    · exact Blk.lt h.hd
    · exact World.ownsMap.lt h.hm
    · obtain ⟨_, cs, hb⟩ := chs_blk h.hc e
      exact hb.lt
  rintro e w' ⟨ch', g, rfl, hd', hm', hc', hb', hg, hfr, hch'⟩
  rw [dk_new k G hk] at hm'
  have hT : Ty b diskT (fun i => i = nm) w w' := Ty.of_fr hfr hlt (fun j e => by
    rcases e with rfl | rfl | e
    · exact Owned.blk h.hd h.bd rfl
    · obtain ⟨es, c, hm⟩ := nmap_at h.hm
      exact Owned.map hm h.bn rfl
    · obtain ⟨hb1, cs, hb⟩ := chs_blk h.hc e
      exact Owned.blk hb hb1 rfl)
  refine ⟨g, rfl, ⟨sm, ch', wrap64 (st + 1), n + 1, ns, D2, kk + 1, ?_⟩, hT⟩
  exact {
    hd := hd'
    hm := hm'
    hs := hT.nmap h.hs (fun e => h.ne e.symm)
    hc := hc'
    hn := Nat.succ_le_succ h.hn
    hk := Nat.succ_le_succ h.hk
    bd := h.bd
    bn := h.bn
    ne := h.ne
    hz := fun e => by cases e
    hf := fun i hi => by
      by_cases hik : i = k
      · subst hik
        rw [upd_at, upd_at, upd_at]
        exact ⟨by omega, 0, ⟨_, 0, hb', World.ownsRow_nil _ _ _ _⟩, fun e => by cases e⟩
      · rw [upd_ne _ _ hik, upd_ne _ _ hik, upd_ne _ _ hik]
        obtain ⟨hgj, sj, hFj, hsj⟩ := h.hf i (by omega)
        refine ⟨hgj, sj, hFj.fr hfr (fun e => ?_) (fun q cs e hb => ?_), hsj⟩
        · obtain ⟨cs, hb⟩ := hFj.blk
          rcases e with e | e | e
          · rw [e] at hb; exact absurd (blk_ty hb h.hd) (by decide)
          · rw [e] at hb; exact blk_nmap hb h.hm
          · obtain ⟨_, ds, hb2⟩ := chs_blk h.hc e
            exact absurd (blk_ty hb hb2) (by decide)
        · rcases e with rfl | rfl | e
          · exact absurd (blk_ty hb h.hd) (by decide)
          · exact blk_nmap hb h.hm
          · obtain ⟨_, ds, hb2⟩ := chs_blk h.hc e
            exact absurd (blk_ty hb hb2) (by decide)
    hi := fun i j hi hj e => by
      have hold : ∀ q, q < k → G q < w.heap.size := fun q hq => by
        obtain ⟨_, _, hF, _⟩ := h.hf q hq
        obtain ⟨cs, hb⟩ := hF.blk
        exact hb.lt
      by_cases hik : i = k <;> by_cases hjk : j = k
      · omega
      · rw [hik, upd_at, upd_ne _ _ hjk] at e
        have := hold j (by omega)
        omega
      · rw [hjk, upd_at, upd_ne _ _ hik] at e
        have := hold i (by omega)
        omega
      · rw [upd_ne _ _ hik, upd_ne _ _ hjk] at e
        exact h.hi i j (by omega) (by omega) e }
end Go.Proofs.YtejbfglaalmafaaGreatDoor
