/- WideLaws: the walk, further cases. -/
import Derived.Test.YtodjpljdkjemmaaWideLawsA
namespace Go.Proofs.Ytodjpljdkjemmaa
open Go.RowKit
set_option linter.unusedVariables false

set_option maxRecDepth 100000 in
set_option maxHeartbeats 4000000 in
theorem laws_fits_small (ah al bh bl x y z : Nat) (s1 : Sm ah) (s2 : Sm al) (s3 : Sm bh) (s4 : Sm bl) (sx : Sm x) (sy : Sm y) (sz : Sm z) (h0 : wh ah al + wh bh bl < 340282366920938463463374607431768211456) (h1 : (y : Int) ≤ IntKind.u64.wrap (18446744073709551615 - (z : Int))) (yz : Nat) (syz : Sm yz) (hyz : IntKind.u64.wrap ((y : Int) + (z : Int)) = (yz : Int)) (hyz2 : y + z = yz) (w : World) :
    Calls Try.prog 7 #[.agg #[.int .u64 (ah : Int), .int .u64 (al : Int)], .agg #[.int .u64 (bh : Int), .int .u64 (bl : Int)], .int .u64 (x : Int), .int .u64 (y : Int), .int .u64 (z : Int)] w fun e w' => e = .returned (.bool true) ∧ Below w.heap.size w w' := by
  obtain ⟨t, ht⟩ : ∃ t : ByteArray, t = text (dec (wh ah al)) := ⟨_, rfl⟩
  obtain ⟨qh, ql, q1, q2, hq⟩ := wh_of (x * x) (sq_lt sx sx)
  replace hq := Lib.hid hq.symm
  replace ht := Lib.hid ht
  obtain ⟨sh, sl, s5, s6, hs⟩ := wh_of (wh ah al + wh bh bl) h0
  obtain ⟨c, hc, c0⟩ : ∃ c : Int, c = cmpN (wh sh sl) (wh ah al) ∧ 0 ≤ c := ⟨_, rfl, cmp_up _ _ (by omega)⟩
  replace hs := Lib.hid hs.symm
  replace hc := Lib.hid hc
  clear h0
  obtain ⟨mh, ml, m1, m2, hm⟩ := wh_of (x * y) (sq_lt sx sy)
  obtain ⟨nh, nl, n1, n2, hn⟩ := wh_of (x * z) (sq_lt sx sz)
  obtain ⟨ph, pl, p1, p2, hp⟩ := wh_of (x * yz) (sq_lt sx syz)
  have hmul : x * y + x * z = x * yz := by rw [← hyz2, Nat.mul_add]
  rw [← hm, ← hn, ← hp] at hmul
  have hyx : y * x = wh mh ml := by rw [Nat.mul_comm, hm]
  replace hm := Lib.hid hm.symm
  replace hn := Lib.hid hn.symm
  replace hp := Lib.hid hp.symm
  replace hmul := Lib.hid hmul
  replace hyx := Lib.hid hyx
  replace hyz2 := Lib.hid hyz2
  have T0 := Two.start w ah al bh bl
  go_enter Try.func7, Try.ntmps7
  go_wp2_with fail
  have T := T0
  clear T0
  refine (add_in ah al bh bl sh sl s1 s2 s3 s4 s5 s6 hs.out _).mono ?_
  rintro e v1 ⟨rfl, b1⟩
  replace T := T.more b1
  clear b1
  obtain ⟨k0, k1, k2, k3⟩ := T.cells
  obtain ⟨l0, l1⟩ := T.lt
  go_wp2_with fail
  clear k0 k1 k2 k3 l0 l1
  replace T := T.more (below_alloc1 v1 (Obj.cells #[.int .u64 (sh : Int), .int .u64 (sl : Int)] 24))
  have Bs := Blk.new v1 24 #[.int .u64 (sh : Int), .int .u64 (sl : Int)]
  generalize v1.alloc (Obj.cells #[.int .u64 (sh : Int), .int .u64 (sl : Int)] 24) = v2 at *
  generalize v1.heap.size = gs at *
  clear v1
  refine (sub_ok sh sl bh bl ah al s5 s6 s3 s4 s2 (by have := hs.out; omega) _).mono ?_
  rintro e v3 ⟨rfl, b3⟩
  replace T := T.more b3
  replace Bs := two_keep Bs b3
  clear b3
  clear v2
  obtain ⟨k0, k1, k2, k3⟩ := T.cells
  obtain ⟨l0, l1⟩ := T.lt
  have es0 : v3.cell? ⟨gs, 0, none⟩ = some (.int .u64 (sh : Int)) := Bs.cell 0
  have es1 : v3.cell? ⟨gs, 1, none⟩ = some (.int .u64 (sl : Int)) := Bs.cell 1
  have ls := Bs.lt
  have is : ¬ gs = v3.heap.size := by omega
  go_wp2_with fail
  clear k0 k1 k2 k3 l0 l1 is es0 es1 ls
  replace T := T.more (below_alloc1 v3 (Obj.cells #[.int .u64 (ah : Int), .int .u64 (al : Int)] 24))
  replace Bs := two_keep Bs (below_alloc1 v3 (Obj.cells #[.int .u64 (ah : Int), .int .u64 (al : Int)] 24))
  generalize v3.alloc (Obj.cells #[.int .u64 (ah : Int), .int .u64 (al : Int)] 24) = v4 at *
  generalize v3.heap.size = gd at *
  clear v3
  refine (cmp_h sh sl ah al s6 s2 c hc.out _).mono ?_
  rintro e v5 ⟨rfl, b5⟩
  replace T := T.more b5
  replace Bs := two_keep Bs b5
  clear b5
  clear v4
  obtain ⟨k0, k1, k2, k3⟩ := T.cells
  obtain ⟨l0, l1⟩ := T.lt
  have es0 : v5.cell? ⟨gs, 0, none⟩ = some (.int .u64 (sh : Int)) := Bs.cell 0
  have es1 : v5.cell? ⟨gs, 1, none⟩ = some (.int .u64 (sl : Int)) := Bs.cell 1
  have ls := Bs.lt
  have is : ¬ gs = v5.heap.size := by omega
  go_wp2_with fail
  clear k0 k1 k2 k3 l0 l1 is es0 es1 ls
  clear Bs
  refine (print_h ah al s1 s2 t ht.out _).mono ?_
  rintro e v6 ⟨rfl, b6⟩
  replace T := T.more b6
  clear b6
  clear v5
  obtain ⟨k0, k1, k2, k3⟩ := T.cells
  obtain ⟨l0, l1⟩ := T.lt
  go_wp2_with fail
  clear k0 k1 k2 k3 l0 l1
  refine (parse_dec ah al s1 s2 t ht.out _).mono ?_
  rintro e v7 ⟨rfl, b7⟩
  replace T := T.more b7
  clear b7
  clear v6
  obtain ⟨k0, k1, k2, k3⟩ := T.cells
  obtain ⟨l0, l1⟩ := T.lt
  go_wp2_with fail
  clear k0 k1 k2 k3 l0 l1
  replace T := T.more (below_alloc1 v7 (Obj.cells #[.int .u64 (ah : Int), .int .u64 (al : Int)] 24))
  generalize v7.alloc (Obj.cells #[.int .u64 (ah : Int), .int .u64 (al : Int)] 24) = v8 at *
  generalize v7.heap.size = gt at *
  clear v7
  refine (mul_h x x qh ql sx sx q2 hq.out _).mono ?_
  rintro e v9 ⟨rfl, b9⟩
  replace T := T.more b9
  clear b9
  clear v8
  obtain ⟨k0, k1, k2, k3⟩ := T.cells
  obtain ⟨l0, l1⟩ := T.lt
  go_wp2_with fail
  clear k0 k1 k2 k3 l0 l1
  skip
  refine (sqrt_sq x qh ql q1 q2 hq.out _).mono ?_
  rintro e v10 ⟨rfl, b10⟩
  replace T := T.more b10
  clear b10
  clear v9
  obtain ⟨k0, k1, k2, k3⟩ := T.cells
  obtain ⟨l0, l1⟩ := T.lt
  go_wp2_with fail
  clear k0 k1 k2 k3 l0 l1
  refine (mul_h x y mh ml sx sy m2 hm.out _).mono ?_
  rintro e v11 ⟨rfl, b11⟩
  replace T := T.more b11
  clear b11
  clear v10
  obtain ⟨k0, k1, k2, k3⟩ := T.cells
  obtain ⟨l0, l1⟩ := T.lt
  go_wp2_with fail
  clear k0 k1 k2 k3 l0 l1
  refine (mul_h x z nh nl sx sz n2 hn.out _).mono ?_
  rintro e v12 ⟨rfl, b12⟩
  replace T := T.more b12
  clear b12
  clear v11
  obtain ⟨k0, k1, k2, k3⟩ := T.cells
  obtain ⟨l0, l1⟩ := T.lt
  go_wp2_with fail
  clear k0 k1 k2 k3 l0 l1
  refine (add_in mh ml nh nl ph pl m1 m2 n1 n2 p1 p2 hmul.out _).mono ?_
  rintro e v13 ⟨rfl, b13⟩
  replace T := T.more b13
  clear b13
  clear v12
  obtain ⟨k0, k1, k2, k3⟩ := T.cells
  obtain ⟨l0, l1⟩ := T.lt
  go_wp2_with fail
  clear k0 k1 k2 k3 l0 l1
  replace T := T.more (below_alloc1 v13 (Obj.cells #[.int .u64 (ph : Int), .int .u64 (pl : Int)] 24))
  have Bu := Blk.new v13 24 #[.int .u64 (ph : Int), .int .u64 (pl : Int)]
  generalize v13.alloc (Obj.cells #[.int .u64 (ph : Int), .int .u64 (pl : Int)] 24) = v14 at *
  generalize v13.heap.size = gu at *
  clear v13
  have S0 : Below w.heap.size w v14.drew ∧ v14.drew.cell? ⟨gu, 0, none⟩ = some (.int .u64 (ph : Int)) ∧ v14.drew.cell? ⟨gu, 1, none⟩ = some (.int .u64 (pl : Int)) := ⟨T.1.drew, Bu.cell 0, Bu.cell 1⟩
  clear T Bu
  go_region_held3 (fun w' => Below w.heap.size w w' ∧ w'.cell? ⟨gu, 0, none⟩ = some (.int .u64 (ph : Int)) ∧ w'.cell? ⟨gu, 1, none⟩ = some (.int .u64 (pl : Int))) (first | exact two_held (by assumption) hb | exact S0)
    (first | (go_at_call 13; refine (awake_any _).mono ?_; rintro e w' ⟨rfl, hb⟩)
           | (go_at_call 14; (with_reducible refine (mul_h x yz ph pl sx syz p2 hp.out _).mono ?_); rintro e w' ⟨rfl, hb⟩)
           | (go_at_call 14; (with_reducible refine (mul_h x y mh ml sx sy m2 hm.out _).mono ?_); rintro e w' ⟨rfl, hb⟩)
           | (go_at_call 14; (with_reducible refine (mul_h y x mh ml sy sx m2 hyx.out _).mono ?_); rintro e w' ⟨rfl, hb⟩))
  rename_i hH
  replace S0 := hH.1
  clear hH
  go_wp2
  go_ret
  exact ⟨rfl, S0⟩
end Go.Proofs.Ytodjpljdkjemmaa
