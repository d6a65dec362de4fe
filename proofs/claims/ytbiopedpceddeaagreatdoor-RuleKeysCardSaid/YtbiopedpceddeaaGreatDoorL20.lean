/- Merged: RV10, RV11, RV12. -/
import Derived.Test.YtbiopedpceddeaaGreatDoorL19
import Derived.Lib.TrailingZeros
import Derived.Laws.Bits64b
set_option linter.unusedVariables false
set_option linter.unusedSimpArgs false
section
namespace Go.Proofs.YtbiopedpceddeaaGreatDoor
open Go.RowKit
set_option linter.unusedVariables false
set_option linter.unusedSimpArgs false

namespace B
def trl (w n : Int) : Int := ((min w.toNat (Lib.ctz 32 n.toNat) : Nat) : Int)
/-- the ones of a number of w bits -/
def onesN : Nat → Nat → Nat
  | 0, _ => 0
  | w + 1, n => n % 2 + onesN w (n / 2)
theorem onesN_add (a b : Nat) : ∀ n, onesN (a + b) n = onesN a (n % 2 ^ a) + onesN b (n / 2 ^ a) := by
  induction a with
  | zero => intro n; simp [onesN]
  | succ a ih =>
    intro n
    rw [show a + 1 + b = (a + b) + 1 by omega]
    simp only [onesN]
    rw [ih (n / 2)]
    have e1 : n % 2 ^ (a + 1) % 2 = n % 2 := Nat.mod_mod_of_dvd n ⟨2 ^ a, by rw [Nat.pow_succ, Nat.mul_comm]⟩
    have e2 : n % 2 ^ (a + 1) / 2 = n / 2 % 2 ^ a := by rw [Nat.pow_succ, Nat.mul_comm, Nat.mod_mul_right_div_self]
    have e3 : n / 2 / 2 ^ a = n / 2 ^ (a + 1) := by rw [Nat.pow_succ, Nat.mul_comm, Nat.div_div_eq_div_mul]
    rw [e1, e2, e3]
    omega
theorem onesN_le (w : Nat) : ∀ n, onesN w n ≤ w := by
  induction w with
  | zero => intro n; simp [onesN]
  | succ w ih => intro n; have := ih (n / 2); simp only [onesN]; omega
end B

/-- the table of the ones of a byte, as the program holds it -/
def strAt (o : Option Oper) : ByteArray := match o with
  | some o => match o.op with
    | Op.index _ (Operand.const (Value.string s)) _ => s
    | _ => ⟨#[]⟩
  | none => ⟨#[]⟩
def popOf (c : Option Code) : ByteArray := match c with
  | some (Code.seq _ (Code.seq (Code.region _ ops _) _)) => strAt ops[2]?
  | _ => ⟨#[]⟩
theorem popS_size : (popOf Tryz.f244.body).size = 256 := by kernel_rfl
theorem popS_at : ∀ k, k < 256 → ((popOf Tryz.f244.body).data.toList.getD k 0).toNat = B.onesN 8 k := by decide +kernel
theorem popS_get {S : ByteArray} (hS : S = popOf Tryz.f244.body) (k : Nat) (h : k < S.size) : (S[k]).toNat = B.onesN 8 k := by
  subst hS
  have := popS_at k (by rw [← popS_size]; exact h)
  rw [← this]
  congr 1
  have hl : k < (popOf Tryz.f244.body).data.toList.length := h
  rw [List.getD_eq_getElem?_getD, List.getElem?_eq_getElem hl]
  rfl
theorem pop_sum {S : ByteArray} (hS : S = popOf Tryz.f244.body) (n : Nat) (hn : n < 4294967296) (h0 : n / 16777216 < S.size) (h1 : n / 65536 % 256 < S.size) (h2 : n / 256 % 256 < S.size) (h3 : n % 256 < S.size) :
    (((S[n / 16777216]).toNat : Int) + ((S[n / 65536 % 256]).toNat : Int) + ((S[n / 256 % 256]).toNat : Int) + ((S[n % 256]).toNat : Int)) % 256 = (B.onesN 32 n : Int) := by
  rw [popS_get hS, popS_get hS, popS_get hS, popS_get hS]
  have e1 := B.onesN_add 8 24 n
  have e2 := B.onesN_add 8 16 (n / 256)
  have e3 := B.onesN_add 8 8 (n / 65536)
  have l0 := B.onesN_le 32 n
  have f1 : n / 256 / 2 ^ 8 = n / 65536 := by omega
  have f2 : n / 65536 / 2 ^ 8 = n / 16777216 := by omega
  simp only [Nat.reduceAdd] at e1 e2 e3
  rw [f1] at e2
  rw [f2] at e3
  simp only [Nat.reducePow] at e1 e2 e3
  omega

set_option maxRecDepth 100000 in
theorem pOf_any (n x : Int) (W : World) (hn : B.isWd n = true) :
    Calls Tryz.prog 152 #[.int .i64 n, .int .i64 x] W fun e w' => e = .returned (.tuple #[.int .u32 (x % B.pw n), .int .i64 0]) ∧ W = w' := by
  have h := B.isWd_iff.1 hn
  have H1 := Lib.hid (isWidth_any n W)
  rw [hn] at H1
  have H2 := Lib.hid (mask_any n W (by omega) h.2)
  have Hm := Lib.hid (B.mask_mod x h.2)
  go_enter Tryz.func152, Tryz.ntmps152
  go_wp2_with fail
  (with_reducible refine H1.out.mono ?_)
  rintro e w1 ⟨rfl, rfl⟩
  go_wp2_with fail
  (with_reducible refine H2.out.mono ?_)
  rintro e w1 ⟨rfl, rfl⟩
  go_wp2
  go_ret2
  refine ⟨?_, rfl⟩
  show Ending.returned (.tuple #[.int .u32 (bits BinOp.and IntKind.u32 (x % 4294967296) (B.pw n - 1)), .int .i64 0]) = _
  rw [Hm.out]

/-- the table of the library's, in its variable -/
def TabAt (w : World) : Prop := ∀ j, j < Lib.deBruijn32tab.length → w.cell? ⟨0, j, none⟩ = some (.int .u8 (Lib.deBruijn32tab.getD j 0))
theorem TabAt.below {w w' : World} (h : TabAt w) (hb : Below w.heap.size w w') : TabAt w' := fun j hj => (hb.cell (p := ⟨0, j, none⟩) (cell_below (h j hj))).trans (h j hj)

theorem wrap_u32' (n : Int) : IntKind.u32.wrap n = n % 4294967296 := by simp [IntKind.wrap, IntKind.signed, IntKind.bits]
theorem bits_and_u32_nat (a b : Nat) (ha : a < 4294967296) (hb : b < 4294967296) : bits .and .u32 (a : Int) (b : Int) = ((a &&& b : Nat) : Int) := by
  have hx : a &&& b < 2 ^ 32 := Nat.and_lt_two_pow _ (by omega)
  have h1 : (BitVec.ofInt 32 (a : Int)).toNat = a := by
    rw [BitVec.ofInt_natCast, BitVec.toNat_ofNat]; exact Nat.mod_eq_of_lt (by omega)
  have h2 : (BitVec.ofInt 32 (b : Int)).toNat = b := by
    rw [BitVec.ofInt_natCast, BitVec.toNat_ofNat]; exact Nat.mod_eq_of_lt (by omega)
  show IntKind.u32.wrap ((BitVec.ofInt 32 (a : Int) &&& BitVec.ofInt 32 (b : Int)).toNat : Int) = _
  rw [BitVec.toNat_and, h1, h2, wrap_u32']
  omega

theorem tz32_key (x a : Nat) (hx : x < 4294967296) (hx0 : x ≠ 0) (hlow : x &&& (4294967296 - x) = a) :
    bits BinOp.and IntKind.u32 (x : Int) (-(x : Int) % 4294967296) * 125613361 % 4294967296 / 134217728 = ((a * 125613361 % 4294967296 / 134217728 : Nat) : Int) := by
  have e1 : -(x : Int) % 4294967296 = ((4294967296 - x : Nat) : Int) := by omega
  have e2 : bits BinOp.and IntKind.u32 (x : Int) ((4294967296 - x : Nat) : Int) = ((x &&& (4294967296 - x) : Nat) : Int) := by
    rw [bits_and_u32_nat x _ hx (by omega)]
  rw [e1, e2, hlow]
  omega

set_option maxHeartbeats 1000000 in
theorem tz32_core (x k idx : Nat) (w : World) (hx0 : ((x : Int) == 0) = false)
    (key : bits BinOp.and IntKind.u32 (x : Int) (-(x : Int) % 4294967296) * 125613361 % 4294967296 / 134217728 = (idx : Int))
    (hi : idx < 32) (hk : k < 32) (hcell : w.cell? ⟨0, idx, none⟩ = some (.int .u8 k)) :
    Calls Tryz.prog 191 #[.int .u32 x] w fun e w' => e = .returned (.int .i64 k) ∧ w = w' := by
  go_enter Tryz.func191, Tryz.ntmps191
  go_wp2_with (simp only [key])
  go_ret
  exact ⟨rfl, rfl⟩

theorem tz32_zero (w : World) : Calls Tryz.prog 191 #[.int .u32 0] w fun e w' => e = .returned (.int .i64 32) ∧ w = w' := by
  go_enter Tryz.func191, Tryz.ntmps191
  go_wp2
  go_ret
  exact ⟨rfl, rfl⟩

theorem tz32_any (x : Nat) (hx : x < 4294967296) (w : World) (hT : TabAt w) :
    Calls Tryz.prog 191 #[.int .u32 x] w fun e w' => e = .returned (.int .i64 (Lib.ctz 32 x)) ∧ w = w' := by
  by_cases hx0 : x = 0
  · subst hx0
    exact tz32_zero w
  · obtain ⟨hlow, hk⟩ := Lib.lowest_bit 32 x hx0 hx
    obtain ⟨hi, htab⟩ := Lib.deBruijn32_at _ hk
    have hcell := hT _ hi
    rw [htab] at hcell
    exact tz32_core x _ _ w (by simp; omega) (tz32_key x _ hx hx0 hlow) hi hk hcell

set_option maxRecDepth 100000 in
set_option maxHeartbeats 4000000 in
theorem ones32_any (n : Nat) (hn : n < 4294967296) (W : World) : Calls Tryz.prog 244 #[.int .u32 n] W fun e w' => e = .returned (.int .i64 (B.onesN 32 n)) ∧ Below W.heap.size W w' := by
  have b0 : bits .and .u32 (n : Int) 255 = (n : Int) % 256 := B.and_mask (n := 8) (by decide) (by omega) (by omega)
  have b1 : bits .and .u32 ((n : Int) / 256) 255 = (n : Int) / 256 % 256 := B.and_mask (n := 8) (by decide) (by omega) (by omega)
  have b2 : bits .and .u32 ((n : Int) / 65536) 255 = (n : Int) / 65536 % 256 := B.and_mask (n := 8) (by decide) (by omega) (by omega)
  have c0 : 0 ≤ (n : Int) / 16777216 := by omega
  have c1 : (n : Int) / 16777216 < 256 := by omega
  have d0 : 0 ≤ (n : Int) / 65536 % 256 := by omega
  have d1 : (n : Int) / 65536 % 256 < 256 := by omega
  have e0 : 0 ≤ (n : Int) / 256 % 256 := by omega
  have e1 : (n : Int) / 256 % 256 < 256 := by omega
  have f0 : 0 ≤ (n : Int) % 256 := by omega
  have f1 : (n : Int) % 256 < 256 := by omega
  go_enter Tryz.func244, Tryz.ntmps244
  go_wp2
  obtain ⟨ov⟩ := ov_ex W
  refine wp_region_ovq ov (by kernel_rfl) (by kernel_rfl) ?_
  repeat (go_big_quiet_step (fail))
  refine wpQuiet_nil ?_
  rintro _ ⟨u, rfl⟩
  have Hbo := Lib.hid (ov.below u)
  go_wp2
  go_ret
  refine ⟨ret_int ?_, Hbo.out⟩
  exact pop_sum (by kernel_rfl) n hn _ _ _ _
end Go.Proofs.YtbiopedpceddeaaGreatDoor
end
section
namespace Go.Proofs.YtbiopedpceddeaaGreatDoor
open Go.RowKit
set_option linter.unusedVariables false
set_option linter.unusedSimpArgs false

theorem slAt_new1 (x : Int) (W : World) : SlAt (IntR .u32) (W.alloc (.cells #[.int .u32 x] 26)) (some ⟨W.heap.size, 0, none⟩) 1 [x] := by
  have := OwnAt.of_new (e := 26) (s := 1) W #[.int .u32 x] 1 rfl (by decide)
  exact OwnAt.slInts (ys := [x]) (q := .u32) this

theorem isW_fits {n x : Int} (h : B.isW n x = true) : (B.isWd n && [x].all fun x => decide (x < B.pw n)) = true := by
  have := B.isW_iff.1 h
  simp [B.isWd_iff.2 ⟨this.1, this.2.1⟩, this.2.2]

theorem ret_two {a b c : Int} {q q' : IntKind} (h : a = b) : Ending.returned (.tuple #[.int q a, .int q' c]) = .returned (.tuple #[.int q b, .int q' c]) := by rw [h]

set_option maxRecDepth 100000 in
theorem pTrailing_any (n x : Int) (W : World) (h : B.isW n x = true) (h0 : 0 ≤ x) (hT : TabAt W) :
    Calls Tryz.prog 153 #[.int .i64 n, .int .u32 x] W fun e w' => e = .returned (.tuple #[.int .i64 (B.trl n x), .int .i64 0]) ∧ Below W.heap.size W w' := by
  have hw := B.isW_iff.1 h
  have hpl := B.pw_le hw.2.1
  have hb : Below W.heap.size W (W.alloc (.cells #[.int .u32 x] 26)) := (Below.refl _ _).alloc (Nat.le_refl _) _
  have H1 := Lib.hid (fits_any n (some ⟨W.heap.size, 0, none⟩) 1 1 [x] (W.alloc (.cells #[.int .u32 x] 26)) (slAt_new1 x W))
  rw [isW_fits h] at H1
  obtain ⟨m, rfl⟩ : ∃ m : Nat, x = m := ⟨x.toNat, by omega⟩
  obtain ⟨k, rfl⟩ : ∃ k : Nat, n = k := ⟨n.toNat, by omega⟩
  have H2 := Lib.hid (tz32_any m (by omega) (W.alloc (.cells #[.int .u32 (m : Int)] 26)) (hT.below hb))
  have Hb := Lib.hid hb
  have hk : k ≤ 32 := by omega
  have hmin : min (k : Int) ((Lib.ctz 32 m : Nat) : Int) = ((min k (Lib.ctz 32 m) : Nat) : Int) := by omega
  have Hv := Lib.hid (show B.trl (k : Int) (m : Int) = ((min k (Lib.ctz 32 m) : Nat) : Int) from by unfold B.trl; rw [Int.toNat_natCast, Int.toNat_natCast])
  generalize B.trl (k : Int) (m : Int) = r at *
  generalize Lib.ctz 32 m = z at *
  clear hw hpl h h0 hb hT
  go_enter Tryz.func153, Tryz.ntmps153
  go_wp2_with fail
  (with_reducible refine H1.out.mono ?_)
  rintro e w1 ⟨rfl, rfl⟩
  go_wp2_with fail
  (with_reducible refine H2.out.mono ?_)
  rintro e w1 ⟨rfl, rfl⟩
  have Hm := Lib.hid hmin
  clear hmin
  go_wp2
  all_goals
    go_ret2
    exact ⟨ret_two (by rw [Hv.out]; omega), Hb.out⟩

set_option maxRecDepth 100000 in
theorem pOnes_any (n x : Int) (W : World) (h : B.isW n x = true) (h0 : 0 ≤ x) :
    Calls Tryz.prog 190 #[.int .i64 n, .int .u32 x] W fun e w' => e = .returned (.tuple #[.int .i64 (B.onesN 32 x.toNat), .int .i64 0]) ∧ Below W.heap.size W w' := by
  have hw := B.isW_iff.1 h
  have hpl := B.pw_le hw.2.1
  have hb : Below W.heap.size W (W.alloc (.cells #[.int .u32 x] 26)) := (Below.refl _ _).alloc (Nat.le_refl _) _
  have H1 := Lib.hid (fits_any n (some ⟨W.heap.size, 0, none⟩) 1 1 [x] (W.alloc (.cells #[.int .u32 x] 26)) (slAt_new1 x W))
  rw [isW_fits h] at H1
  obtain ⟨m, rfl⟩ : ∃ m : Nat, x = m := ⟨x.toNat, by omega⟩
  have H2 := Lib.hid (ones32_any m (by omega) (W.alloc (.cells #[.int .u32 (m : Int)] 26)))
  have Hb := Lib.hid hb
  clear hw hpl h h0 hb
  rw [Int.toNat_natCast]
  go_enter Tryz.func190, Tryz.ntmps190
  go_wp2_with fail
  (with_reducible refine H1.out.mono ?_)
  rintro e w1 ⟨rfl, rfl⟩
  go_wp2_with fail
  (with_reducible refine H2.out.mono ?_)
  rintro e w1 ⟨rfl, hb1⟩
  have Hb1 := Lib.hid (Hb.out.trans (hb1.mono Hb.out.size))
  clear hb1
  go_wp2
  go_ret2
  exact ⟨rfl, Hb1.out⟩
end Go.Proofs.YtbiopedpceddeaaGreatDoor
end
section
namespace Go.Proofs.YtbiopedpceddeaaGreatDoor
open Go.RowKit
set_option linter.unusedVariables false
set_option linter.unusedSimpArgs false

namespace R
/-- a precondition holds -/
def cond (w : Int) (hs : List Int) (c : Cd) : Bool :=
  if c.kind = 0 then (hs.getD c.hole.toNat 0 != 0)
  else if c.kind = 1 then ((B.onesN 32 (hs.getD c.hole.toNat 0).toNat : Int) == 1)
  else if c.kind = 2 then decide (hs.getD c.hole.toNat 0 < w)
  else if c.kind = 3 then (hs.getD c.hole.toNat 0 % 2 == 1)
  else (hs.getD c.hole.toNat 0 != c.imm % B.pw w)
/-- numbers for holes, of a width -/
def HsOk (w : Int) (hs : List Int) : Prop := hs.length = 2 ∧ ∀ n ∈ hs, 0 ≤ n ∧ B.isW w n = true
end R

def five (b0 b1 b2 b3 b4 : Bool) (k : Nat) : Bool := if k = 0 then b0 else if k = 1 then b1 else if k = 2 then b2 else if k = 3 then b3 else b4
theorem run_idx5 (b0 b1 b2 b3 b4 : Bool) (k : Nat) (hk : k < 5) (W : World) : (Instr.index 236 (.agg #[.bool b0, .bool b1, .bool b2, .bool b3, .bool b4]) (.int .i64 (k : Int))).run Tryz.prog W = .ok (.bool (five b0 b1 b2 b3 b4 k)) W := by
  have h4 : (k : Int) < 5 := by omega
  rcases (show k = 0 ∨ k = 1 ∨ k = 2 ∨ k = 3 ∨ k = 4 by omega) with rfl | rfl | rfl | rfl | rfl
  all_goals simp [Instr.index, run_underlying Tryz.underlying236, asIntOf, part, five, go_sem]

set_option maxRecDepth 100000 in
set_option maxHeartbeats 4000000 in
theorem gmeets_any {r : R.Rl} {w : Int} {hs : List Int} {nl cl nr cr np cp ch : Nat} {AL AR AP Ah : Option Addr} {W : World} (hP : StAt 3 CdR W AP np r.pre) (hH : SlAt (IntR .u32) W Ah 2 hs) (hp : r.pre.all R.cdOk = true) (hw : B.isWd w = true) (hh : R.HsOk w hs) :
    Calls Tryz.prog 150 #[.agg #[.slice AL nl cl, .slice AR nr cr, .slice AP np cp], .int .i64 w, .slice Ah 2 ch] W fun e W' => e = .returned (.bool (r.pre.all (R.cond w hs))) ∧ Below W.heap.size W W' := by
  have hl := hP.len
  have hle := hP.le
  obtain ⟨W1, hW1⟩ : ∃ W1, W1 = W.alloc (.cells #[.slice AL nl cl, .slice AR nr cr, .slice AP np cp] 33) := ⟨_, rfl⟩
  have hb1 : Below W.heap.size W W1 := by rw [hW1]; exact (Below.refl _ _).alloc (Nat.le_refl _) _
  have hr1 : W1.heap[W.heap.size]? = some (.cells #[.slice AL nl cl, .slice AR nr cr, .slice AP np cp] 33 (0, 0)) := by rw [hW1]; exact heap_alloc_new W _
  have c2 : W1.cell? ⟨W.heap.size, 2, none⟩ = some (.slice AP np cp) := by rw [cell_of_row _ _ _ _ _ (0, 0) hr1]; rfl
  have hwd := B.isWd_iff.1 hw
  have HP := Lib.hid (hP.below monoCd hb1)
  have HH := Lib.hid (hH.below (monoInt _) hb1)
  have Hp := Lib.hid hp
  have Hw := Lib.hid hw
  have Hh := Lib.hid hh
  have Hl := Lib.hid hl
  have Hb1 := Lib.hid hb1
  clear hP hH hp hw hh hl hb1 hr1
  go_enter Tryz.func150, Tryz.ntmps150
  go_wp2
  rw [← hW1]
  clear hW1 c2
  go_loopg [17] (np + 1) (fun gg i wr => ∃ (j : Nat), j ≤ np ∧ i = .int .i64 (j : Int) ∧ gg + j = np + 1 ∧ Hid (Below W1.heap.size W1 wr) ∧ Hid ((r.pre.take j).all (R.cond w hs) = true))
  case atStart => exact ⟨0, Nat.zero_le _, rfl, rfl, Lib.hid (Below.refl _ _), Lib.hid rfl⟩
  case round =>
    obtain ⟨j, hj, rfl, hgk, Hbw, HO⟩ := hrel
    have Hgk := Lib.hid hgk; clear hgk
    by_cases hjn : j < np
    · obtain ⟨x, b, off, hx, rfl, hb, h0, h1, h2, i0, i1⟩ := cd_cells HP.out hjn
      have hok := List.all_eq_true.1 Hp.out x (List.mem_of_getElem? hx)
      unfold R.cdOk at hok
      simp only [Bool.and_eq_true, decide_eq_true_eq] at hok
      obtain ⟨⟨⟨⟨q1, q2⟩, q3⟩, q4⟩, _⟩ := hok
      obtain ⟨kind, hole, imm⟩ := x
      dsimp only at *
      obtain ⟨kd, rfl⟩ : ∃ k : Nat, kind = k := ⟨kind.toNat, by omega⟩
      obtain ⟨h, rfl⟩ : ∃ h : Nat, hole = h := ⟨hole.toNat, by omega⟩
      have hh2 : h < 2 := by omega
      have hk5 : kd < 5 := by omega
      have hbel := Hbw.out
      have k0 := (hbel.cell (p := ⟨b, off + j * 3, none⟩) hb).trans h0
      have k1 := (hbel.cell (p := ⟨b, off + j * 3 + 1, none⟩) hb).trans h1
      have k2 := (hbel.cell (p := ⟨b, off + j * 3 + 2, none⟩) hb).trans h2
      obtain ⟨m, bh, offh, u, hm, rfl, hbh, hc, rfl⟩ := HH.out.at_ hh2
      have kh := (hbel.cell (p := ⟨bh, offh + h, none⟩) hbh).trans hc
      have hmw := Hh.out.2 m (List.mem_of_getElem? hm)
      have hwx := B.isW_iff.1 hmw.2
      have hpl := B.pw_le hwx.2.1
      obtain ⟨n, rfl⟩ : ∃ n : Nat, m = n := ⟨m.toNat, by omega⟩
      obtain ⟨w2, hw2⟩ : ∃ w2, w2 = wr.alloc (.cells #[.int .i64 (kd : Int), .int .i64 (h : Int), .int .u32 imm] 88) := ⟨_, rfl⟩
      have hb2 : Below wr.heap.size wr w2 := by rw [hw2]; exact (Below.refl _ _).alloc (Nat.le_refl _) _
      have hr2 : w2.heap[wr.heap.size]? = some (.cells #[.int .i64 (kd : Int), .int .i64 (h : Int), .int .u32 imm] 88 (0, 0)) := by rw [hw2]; exact heap_alloc_new wr _
      have kh2 := (hb2.cell (p := ⟨bh, offh + h, none⟩) (cell_below kh)).trans kh
      have HOf := Lib.hid (pOf_any w imm w2 Hw.out)
      have hon := pOnes_any w (n : Int) w2 hmw.2 hmw.1
      rw [Int.toNat_natCast] at hon
      have HOnes := Lib.hid hon
      clear hon
      have Hr2 := Lib.hid hr2
      have Hb2 := Lib.hid (hbel.trans (hb2.mono hbel.size))
      have Hc := Lib.hid (show R.cond w hs ⟨(kd : Int), (h : Int), imm⟩ = five ((n : Int) != 0) ((B.onesN 32 n : Int) == 1) (decide ((n : Int) < w)) ((n : Int) % 2 == 1) ((n : Int) != imm % B.pw w) kd from by
        have e : hs.getD ((h : Int)).toNat 0 = (n : Int) := by rw [Int.toNat_natCast, List.getD_eq_getElem?_getD, hm]; rfl
        unfold R.cond five
        dsimp only
        rw [e, Int.toNat_natCast]
        generalize B.onesN 32 n = on
        rcases (show kd = 0 ∨ kd = 1 ∨ kd = 2 ∨ kd = 3 ∨ kd = 4 by omega) with rfl | rfl | rfl | rfl | rfl <;> simp)
      have hand : bits .and .u32 (n : Int) 1 = (n : Int) % 2 := B.and_mask (n := 1) (by decide) (by omega) (by omega)
      have hwn : IntKind.u64.wrap (n : Int) = (n : Int) := by rw [IntKind.wrap_u64]; omega
      have Hx := Lib.hid hx
      generalize B.onesN 32 n = on at *
      have hi64 : wrap64 imm = imm := by unfold wrap64; omega
      clear h0 h1 h2 hb hx hm hbh hc kh q1 q2 q3 q4 hb2 hr2 hmw hwx hpl hbel
      subst hw2
      go_wp2_with fail
      (with_reducible refine HOf.out.mono ?_)
      rintro e w3 ⟨rfl, rfl⟩
      go_wp2_with fail
      (with_reducible refine HOnes.out.mono ?_)
      rintro e w3 ⟨rfl, hb3⟩
      have hr3 := row_step (Lib.hid hb3) Hr2.out
      have c0 : w3.cell? ⟨wr.heap.size, 0, none⟩ = some (.int .i64 (kd : Int)) := by rw [cell_of_row _ _ _ _ _ (0, 0) hr3]; rfl
      have hidx := run_idx5 ((n : Int) != 0) ((on : Int) == 1) (decide ((n : Int) < w)) ((n : Int) % 2 == 1) ((n : Int) != imm % B.pw w) kd hk5 w3
      have Hb3 := Lib.hid (Hb2.out.trans (hb3.mono Hb2.out.size))
      clear hb3 hr3
      generalize five ((n : Int) != 0) ((on : Int) == 1) (decide ((n : Int) < w)) ((n : Int) % 2 == 1) ((n : Int) != imm % B.pw w) kd = f5 at *
      cases f5
      · go_wp2
        go_ret
        refine ⟨ret_bool ?_, Hb1.out.trans (Hb3.out.mono Hb1.out.size)⟩
        symm
        rw [Bool.eq_false_iff]
        intro hall
        have := List.all_eq_true.1 hall _ (List.mem_of_getElem? Hx.out)
        rw [Hc.out] at this
        cases this
      · go_wp2
        go_roundg (gk - 1)
        case measure => have := Hgk.out; omega
        case rel =>
          have := Hgk.out
          exact ⟨j + 1, by omega, by go_num, by omega, Hb3, Lib.hid (by rw [take_next Hx.out, List.all_append, HO.out]; simp [Hc.out])⟩
    · obtain rfl : j = np := by omega
      have e : r.pre.take j = r.pre := List.take_of_length_le (by rw [Hl.out]; exact Nat.le_refl _)
      rw [e] at HO
      go_wp2
      go_ret
      exact ⟨ret_bool HO.out.symm, Hb1.out.trans (Hbw.out.mono Hb1.out.size)⟩
end Go.Proofs.YtbiopedpceddeaaGreatDoor
end
