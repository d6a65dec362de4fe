/- The smallest constant: both sides; the law SeekConstants. -/
import Derived.Test.YtableoihgkmbjaaGreatT22
namespace Go.Proofs.YtableoihgkmbjaaGreat
open Go.RowKit
set_option linter.unusedVariables false
set_option linter.unusedSimpArgs false

namespace K
def cval (t : List T.Nd) (x c : Nat) : Int := (T.vals t (envOf [(x : Int), (c : Int)])).getD (t.length - 1) 0
def cfit (t : List T.Nd) (table : List Int) (c : Nat) : Bool := (List.range table.length).all fun x => decide (cval t x c = table.getD x 0)
def constant (t : List T.Nd) (w : Int) (table : List Int) : Int × Bool × Int :=
  if askedT t 2 w ≠ 0 then (0, false, askedT t 2 w)
  else if isTable 1 w.toNat table = false then (0, false, 1)
  else match (List.range (2 ^ w.toNat)).find? (cfit t table) with
    | some c => ((c : Int), true, 0)
    | none => (0, false, 0)
theorem find_here {p : Nat → Bool} {N c : Nat} (h : ∀ d, d < c → p d = false) (hp : p c = true) (hc : c < N) : (List.range N).find? p = some c := by
  rw [List.find?_eq_some_iff_getElem]
  refine ⟨hp, c, by simpa using hc, by simp, fun j hj => ?_⟩
  simp only [List.getElem_range]
  rw [h j hj]
  rfl
theorem find_nowhere {p : Nat → Bool} {N : Nat} (h : ∀ d, d < N → p d = false) : (List.range N).find? p = none := by
  rw [List.find?_eq_none]
  intro d hd
  rw [h d (List.mem_range.1 hd)]
  simp
theorem all_snoc {p : Nat → Bool} (n : Nat) : (List.range (n + 1)).all p = ((List.range n).all p && p n) := by
  rw [List.range_succ, List.all_append]
  simp
theorem all_cut {p : Nat → Bool} {n m : Nat} (h : n ≤ m) (hf : (List.range n).all p = false) : (List.range m).all p = false := by
  rw [List.all_eq_false] at hf ⊢
  obtain ⟨x, hx, hp⟩ := hf
  exact ⟨x, List.mem_range.2 (by have := List.mem_range.1 hx; omega), hp⟩
theorem tbl2_at {t : List T.Nd} {w x c : Nat} (hx : x < 2 ^ w) (hc : c < 2 ^ w) : (tblOf t 2 w)[x * 2 ^ w + c]? = some (cval t x c) := by
  have hlt : x * 2 ^ w + c < size 2 w := by
    unfold size
    rw [Nat.two_mul, Nat.pow_add]
    calc x * 2 ^ w + c < x * 2 ^ w + 2 ^ w := by omega
      _ = (x + 1) * 2 ^ w := by rw [Nat.add_mul, Nat.one_mul]
      _ ≤ 2 ^ w * 2 ^ w := Nat.mul_le_mul_right _ hx
  unfold tblOf
  rw [List.getElem?_map, inputs_at hlt]
  have h1 : (x * 2 ^ w + c) / 2 ^ w = x := by
    rw [Nat.mul_comm, Nat.mul_add_div (Nat.pow_pos (by decide)), Nat.div_eq_of_lt hc, Nat.add_zero]
  have h2 : (x * 2 ^ w + c) % 2 ^ w = c := by
    rw [Nat.mul_comm, Nat.mul_add_mod, Nat.mod_eq_of_lt hc]
  unfold inp cval
  rw [if_neg (by decide), h1, h2]
  rfl
theorem inp2_at {w x c : Nat} (hx : x < 2 ^ w) (hc : c < 2 ^ w) : inp 2 w (x * 2 ^ w + c) = [(x : Int), (c : Int)] ∧ x * 2 ^ w + c < size 2 w := by
  have h1 : (x * 2 ^ w + c) / 2 ^ w = x := by
    rw [Nat.mul_comm, Nat.mul_add_div (Nat.pow_pos (by decide)), Nat.div_eq_of_lt hc, Nat.add_zero]
  have h2 : (x * 2 ^ w + c) % 2 ^ w = c := by
    rw [Nat.mul_comm, Nat.mul_add_mod, Nat.mod_eq_of_lt hc]
  refine ⟨by unfold inp; rw [if_neg (by decide), h1, h2], ?_⟩
  unfold size
  rw [Nat.two_mul, Nat.pow_add]
  calc x * 2 ^ w + c < x * 2 ^ w + 2 ^ w := by omega
    _ = (x + 1) * 2 ^ w := by rw [Nat.add_mul, Nat.one_mul]
    _ ≤ 2 ^ w * 2 ^ w := Nat.mul_le_mul_right _ hx
theorem asked_om {t : List T.Nd} {k w : Nat} (hask : askedT t k w = 0) : T.valid true t = 0 ∧ odd t w = false ∧ more t k = false := by
  have hv : T.valid true t = 0 := by
    apply Classical.byContradiction
    intro h
    unfold K.askedT at hask
    rw [if_pos h] at hask
    exact h hask
  refine ⟨hv, ?_⟩
  unfold K.askedT at hask
  rw [if_neg (by simpa using hv)] at hask
  split at hask
  · omega
  · split at hask
    · omega
    · rename_i h
      split at hask
      · omega
      · rename_i h2
        rw [Int.toNat_natCast] at h2
        exact ⟨by simpa using fun h' => h (.inr h'), by simpa using h2⟩
theorem asked_kw {t : List T.Nd} {k w : Int} (ha : askedT t k w = 0) : 1 ≤ k ∧ k ≤ 2 ∧ 1 ≤ w ∧ w ≤ 3 := by
  unfold K.askedT at ha
  split at ha
  · rename_i h; exact absurd ha h
  · split at ha
    · omega
    · rename_i h
      have := K.over_iff.1 (show K.over k w = true by simpa using h)
      omega
end K

theorem ret_3 {a a' : Int} {b b' : Bool} {c c' : Int} (h1 : a = a') (h2 : b = b') (h3 : c = c') : Ending.returned (.tuple #[.int .u32 a, .bool b, .int .i64 c]) = .returned (.tuple #[.int .u32 a', .bool b', .int .i64 c']) := by rw [h1, h2, h3]

theorem pisTable1 (w : Nat) (hw : w = 1 ∨ w = 2 ∨ w = 3) (A : Option Addr) (m c : Nat) (t : List Int) (W : World) (hA : SlAt (IntR .u32) W A m t) :
    Calls Tryz.prog 29 #[.agg #[.int .i64 1, .int .i64 w], .slice A m c] W fun e w' => e = .returned (.bool (K.isTable 1 w t)) ∧ Below W.heap.size W w' := pisTable_any 1 w (.inl rfl) hw A m c t W hA
theorem psize1 (w : Nat) (hw : w = 1 ∨ w = 2 ∨ w = 3) (W : World) :
    Calls Tryz.prog 30 #[.agg #[.int .i64 1, .int .i64 w]] W fun e w' => e = .returned (.int .i64 (K.size 1 w : Nat)) ∧ Below W.heap.size W w' := psize_any 1 w (.inl rfl) hw W
theorem risTable1 (w : Nat) (hw : w = 1 ∨ w = 2 ∨ w = 3) (A : Option Addr) (m c : Nat) (xs : List Int) (W : World) (hA : SlAt (IntR .u32) W A m xs) (hx32 : K.W32 xs) :
    Calls Tryz.prog 31 #[.int .i64 1, .int .i64 w, .slice A m c] W fun e w' => e = .returned (.bool (K.isTable 1 w xs)) ∧ W = w' := risTable_any 1 w (.inl rfl) hw A m c xs W hA hx32

def ConR (r : Int × Bool × Int) (W : World) (e : Ending) (w' : World) : Prop := Below W.heap.size W w' ∧ e = .returned (.tuple #[.int .u32 r.1, .bool r.2.1, .int .i64 r.2.2])
theorem ConR.mk_ {r : Int × Bool × Int} {a c : Int} {b : Bool} {W w' : World} {e : Ending} (hr : r = (a, b, c)) (hb : Below W.heap.size W w') (he : e = .returned (.tuple #[.int .u32 a, .bool b, .int .i64 c])) : ConR r W e w' := ⟨hb, by rw [hr]; exact he⟩

set_option maxRecDepth 100000 in
set_option maxHeartbeats 4000000 in
theorem pConstant_any (t : List T.Nd) (w : Int) (table : List Int) (n ct m cm : Nat) (At Am : Option Addr) (W : World) (hT : StAt 5 NdR W At n t) (hM : SlAt (IntR .u32) W Am m table) :
    Calls Tryz.prog 16 #[.slice At n ct, .int .i64 w, .slice Am m cm] W (ConR (K.constant t w table) W) := by
  have HT := Lib.hid (ptabled_any t 2 w n ct At W hT)
  obtain ⟨r, hr⟩ : ∃ r, r = K.constant t w table := ⟨_, rfl⟩
  rw [← hr]
  unfold K.constant at hr
  by_cases ha : K.askedT t 2 w = 0
  · have hkw := K.asked_kw ha
    rw [if_neg (by simpa using ha)] at hr
    obtain ⟨wN, rfl⟩ : ∃ wN : Nat, w = wN := ⟨w.toNat, by omega⟩
    have hw : wN = 1 ∨ wN = 2 ∨ wN = 3 := by omega
    rw [Int.toNat_natCast] at hr
    have HI := Lib.hid (fun X (h : Below W.heap.size W X) => pisTable1 wN hw Am m cm table X (hM.below (monoInt _) h))
    have Ha := Lib.hid ha
    have hle := hM.le
    have HM := Lib.hid hM
    cases hi : K.isTable 1 wN table
    · rw [hi] at HI
      rw [hi, if_pos rfl] at hr
      have Hr := Lib.hid hr
      clear hr hT hM ha hi hkw hw
      go_enter Tryz.func16, Tryz.ntmps16
      go_wp2_with fail
      (with_reducible refine HT.out.mono ?_)
      rintro e w1 ⟨hb1, ⟨h0, _⟩ | ⟨_, v, rfl, hown, hob⟩⟩
      · exact absurd Ha.out h0
      have Hb1 := Lib.hid hb1
      have hbx : Below W.heap.size W (w1.alloc (.cells #[.int .i64 1, .int .i64 (wN : Int)] 48)) := hb1.alloc hb1.size _
      have Hbx := Lib.hid hbx
      have HI2 := Lib.hid (HI.out _ hbx)
      clear hb1 hown hob hbx
      go_wp2_with fail
      (with_reducible refine HI2.out.mono ?_)
      rintro e w2 ⟨rfl, hb2⟩
      have Hb2 := Lib.hid (Hbx.out.trans (hb2.mono Hbx.out.size))
      clear hb2
      go_wp2
      go_ret3
      exact ConR.mk_ Hr.out Hb2.out rfl
    · rw [hi] at HI
      rw [hi, if_neg (by simp)] at hr
      have hlen : table.length = 2 ^ wN := by
        unfold K.isTable at hi
        simp only [Bool.and_eq_true, decide_eq_true_eq] at hi
        rw [hi.1]; unfold K.size; rw [Nat.one_mul]
      have hmN : m = 2 ^ wN := by rw [← hM.len]; exact hlen
      have Htb := Lib.hid (fun x c (hx : x < 2 ^ wN) (hc : c < 2 ^ wN) => K.tbl2_at (t := t) hx hc)
      have HS := Lib.hid (fun W' => psize1 wN hw W')
      have hsz : K.size 1 wN = 2 ^ wN := by unfold K.size; rw [Nat.one_mul]
      have hsz2 : K.size 2 wN = 2 ^ wN * 2 ^ wN := by unfold K.size; rw [Nat.two_mul, Nat.pow_add]
      rw [hsz] at HS
      have Hsz2 := Lib.hid hsz2
      have hcf : ∀ c, K.cfit t table c = (List.range (2 ^ wN)).all fun x => decide (K.cval t x c = table.getD x 0) := fun c => by unfold K.cfit; rw [hlen]
      have Hcf := Lib.hid hcf
      have Hr := Lib.hid hr
      have HmN := Lib.hid hmN
      clear hr hT hM ha hi hlen hmN hsz hsz2 hcf
      generalize hPf : K.cfit t table = pf at Hcf Hr
      clear hPf
      go_enter Tryz.func16, Tryz.ntmps16
      go_wp2_with fail
      (with_reducible refine HT.out.mono ?_)
      rintro e w1 ⟨hb1, ⟨h0, _⟩ | ⟨_, v, rfl, hown, hob⟩⟩
      · exact absurd Ha.out h0
      obtain ⟨Av, cv, rfl⟩ := hown.form
      have Hown := Lib.hid hown
      have Hb1 := Lib.hid hb1
      have hbx : Below W.heap.size W (w1.alloc (.cells #[.int .i64 1, .int .i64 (wN : Int)] 48)) := hb1.alloc hb1.size _
      have hxr : (w1.alloc (.cells #[.int .i64 1, .int .i64 (wN : Int)] 48)).heap[w1.heap.size]? = some (.cells #[.int .i64 1, .int .i64 (wN : Int)] 48 (0, 0)) := heap_alloc_new w1 _
      have Hxr := Lib.hid hxr
      have Hbx := Lib.hid hbx
      have HI2 := Lib.hid (HI.out _ hbx)
      have Hbw := Lib.hid (show Below w1.heap.size w1 (w1.alloc (.cells #[.int .i64 1, .int .i64 (wN : Int)] 48)) from (Below.refl _ _).alloc (Nat.le_refl _) _)
      clear hb1 hown hob hbx hxr
      go_wp2_with fail
      (with_reducible refine HI2.out.mono ?_)
      rintro e w2 ⟨rfl, hb2⟩
      have Hb2 := Lib.hid (Hbx.out.trans (hb2.mono Hbx.out.size))
      have Hb12 := Lib.hid (Hbw.out.trans (hb2.mono Hbw.out.size))
      have hr2 := row_step (Lib.hid hb2) Hxr.out
      have d0 : w2.cell? ⟨w1.heap.size, 0, none⟩ = some (.int .i64 1) := by rw [cell_of_row _ _ _ _ _ (0, 0) hr2]; rfl
      have d1 : w2.cell? ⟨w1.heap.size, 1, none⟩ = some (.int .i64 (wN : Int)) := by rw [cell_of_row _ _ _ _ _ (0, 0) hr2]; rfl
      clear hb2 hr2
      go_wp2_with fail
      (with_reducible refine (HS.out _).mono ?_)
      rintro e w3 ⟨rfl, hb3⟩
      have Hb3 := Lib.hid (Hb2.out.trans (hb3.mono Hb2.out.size))
      have Hown3 := Lib.hid ((Hown.out.below Hb12.out Hown.out.lt).below hb3 (fun g hg => (Hown.out.below Hb12.out Hown.out.lt).lt g hg))
      clear hb3 d0 d1
      have hM3 := HM.out.below (monoInt _) Hb3.out
      have HTab := Lib.hid (show ∀ x c, x < 2 ^ wN → c < 2 ^ wN → ∃ b off, Av = some ⟨b, off, none⟩ ∧ w3.cell? ⟨b, off + (x * 2 ^ wN + c), none⟩ = some (.int .u32 (K.cval t x c)) from fun x c hx hc => by
        have h1 := Htb.out x c hx hc
        have h2 : x * 2 ^ wN + c < K.size 2 (wN : Int).toNat := by
          rw [Int.toNat_natCast, Hsz2.out]
          calc x * 2 ^ wN + c < x * 2 ^ wN + 2 ^ wN := by omega
            _ = (x + 1) * 2 ^ wN := by rw [Nat.add_mul, Nat.one_mul]
            _ ≤ 2 ^ wN * 2 ^ wN := Nat.mul_le_mul_right _ hx
        obtain ⟨y, b, off, u, hy, hA, _, hc', hu⟩ := Hown3.out.slInts.at_ h2
        obtain rfl : u = .int .u32 y := hu
        rw [Int.toNat_natCast] at hy
        have h1' : (K.tblOf t (2 : Int).toNat wN)[x * 2 ^ wN + c]? = some (K.cval t x c) := h1
        rw [h1'] at hy
        obtain rfl := Option.some.inj hy
        exact ⟨b, off, hA, hc'⟩)
      have Hlen2 := Lib.hid (show K.size (2 : Int).toNat (wN : Int).toNat = 2 ^ wN * 2 ^ wN from by rw [Int.toNat_natCast]; exact Hsz2.out)
      have HM3 := Lib.hid hM3
      clear hM3 HI2 HT HI HS Htb Hown Hown3
      obtain ⟨L, hL⟩ : ∃ L, L = K.size 2 wN := ⟨_, rfl⟩
      rw [← hL]
      have HL := Lib.hid hL
      have hL64 : L ≤ 64 := by rw [hL]; exact K.size_le (by omega) (by omega)
      clear hL
      obtain ⟨N, hN⟩ : ∃ N, N = 2 ^ wN := ⟨_, rfl⟩
      have hN8 : N ≤ 8 := by rw [hN]; exact (pow_facts hw).2.1
      have hN0 : 0 < N := by rw [hN]; exact (pow_facts hw).2.2
      simp only [← hN] at HTab Hr Hcf HmN Hsz2 ⊢
      have hwN : wN ≤ 3 := by omega
      have HN := Lib.hid hN
      have Hw := Lib.hid hw
      have hmN := HmN.out
      subst hmN
      clear hN hw HmN
      go_wp2
      go_loop [34] (fun i => ∃ c : Nat, c ≤ m ∧ i = .int .i64 (c : Int) ∧ Hid (∀ d, d < c → pf d = false)) (fun i => m - (intOf i).toNat)
      case atStart => exact ⟨0, Nat.zero_le _, rfl, Lib.hid (fun d hd => by omega)⟩
      case round =>
        obtain ⟨c, hc, rfl, Hno⟩ := hrel
        by_cases hcm : c < m
        · go_wp2
          go_loop [13, 39] (fun f i => ∃ x : Nat, x ≤ m ∧ i = .int .i64 (x : Int) ∧ f = .bool ((List.range x).all fun x => decide (K.cval t x c = table.getD x 0))) (fun _ i => m - (intOf i).toNat)
          case atStart => exact ⟨0, Nat.zero_le _, rfl, rfl⟩
          case round =>
            obtain ⟨x, hx, rfl, rfl⟩ := hrel
            by_cases hxm : x < m
            · obtain ⟨bb, off, hAv, hce⟩ := HTab.out x c hxm hcm
              subst hAv
              obtain ⟨q, hq⟩ : ∃ q, q = x * m + c := ⟨_, rfl⟩
              rw [← hq] at hce
              have hqL : q < L := by
                rw [HL.out, Hsz2.out, hq]
                calc x * m + c < x * m + m := by omega
                  _ = (x + 1) * m := by rw [Nat.add_mul, Nat.one_mul]
                  _ ≤ m * m := Nat.mul_le_mul_right _ hxm
              have hsh : wrap64 (wrap64 ((x : Int) * 2 ^ wN) + (c : Int)) = (q : Int) := by
                have e1 : (x : Int) * 2 ^ wN = ((x * m : Nat) : Int) := by rw [HN.out]; simp
                have e2 : wrap64 ((x * m : Nat) : Int) = ((x * m : Nat) : Int) := IntWalk.wrap64_in _ ⟨by omega, by omega⟩
                rw [e1, e2, IntWalk.wrap64_in _ ⟨by omega, by omega⟩, hq]
                simp
              clear hq
              obtain ⟨y, bm, offm, um, hy, hAm, _, hcm2, hum⟩ := HM3.out.at_ hxm
              subst hAm
              obtain rfl : um = .int .u32 y := hum
              have Hnx := Lib.hid (K.all_snoc (p := fun x => decide (K.cval t x c = table.getD x 0)) x)
              cases hf : (List.range x).all fun x => decide (K.cval t x c = table.getD x 0)
              · rw [hf] at Hnx
                rw [Bool.false_and] at Hnx
                clear hy hf
                go_wp2
                go_round
                case rel => exact ⟨x + 1, by omega, by go_num, by rw [Hnx.out]⟩
                case measure => simp [intOf]; omega
              · rw [hf, Bool.true_and, getD_of hy] at Hnx
                clear hy hf
                have q9 : (K.cval t x c == y) = decide (K.cval t x c = y) := rfl
                go_wp2
                go_round
                case rel => exact ⟨x + 1, by omega, by go_num, by rw [Hnx.out]⟩
                case measure => simp [intOf]; omega
            · obtain rfl : x = m := by omega
              rw [← Hcf.out]
              have Hc1 := Lib.hid (show ∀ b, pf c = b → pf c = b from fun b h => h)
              cases hp : pf c
              · have Hp := Lib.hid hp
                go_wp2
                go_round
                case rel => exact ⟨c + 1, by omega, by go_num, Lib.hid (fun d hd => by
                  rcases Nat.lt_or_ge d c with h | h
                  · exact Hno.out d h
                  · obtain rfl : d = c := by omega
                    exact Hp.out)⟩
                case measure => simp [intOf]; omega
              · have Hfr := Lib.hid (show r = ((c : Int), true, 0) from by rw [Hr.out, K.find_here Hno.out hp hcm])
                clear hp
                go_wp2
                go_ret3
                exact ConR.mk_ Hfr.out Hb3.out rfl
        · obtain rfl : c = m := by omega
          have Hfr := Lib.hid (show r = (0, false, 0) from by rw [Hr.out, K.find_nowhere Hno.out])
          go_wp2
          go_ret3
          exact ConR.mk_ Hfr.out Hb3.out rfl
  · rw [if_pos ha] at hr
    obtain ⟨er, her⟩ : ∃ er, er = K.askedT t 2 w := ⟨_, rfl⟩
    rw [← her] at hr
    have Ha := Lib.hid ha
    rw [← her] at ha
    have hvb : (er != 0) = true := by simpa using ha
    have Hr := Lib.hid hr
    have Her := Lib.hid her
    clear hT hM hr ha her
    go_enter Tryz.func16, Tryz.ntmps16
    go_wp2_with fail
    (with_reducible refine HT.out.mono ?_)
    rintro e w1 ⟨hb1, ⟨_, h0⟩ | ⟨h0, _⟩⟩
    case inr => exact absurd h0 Ha.out
    rw [← Her.out] at h0
    subst h0
    have Hb1 := Lib.hid hb1
    clear hb1
    go_wp2
    go_ret3
    exact ConR.mk_ Hr.out Hb1.out rfl

set_option maxRecDepth 100000 in
set_option maxHeartbeats 4000000 in
theorem rConstant_any (t : List T.Nd) (w : Int) (table : List Int) (n ct m cm : Nat) (At Am : Option Addr) (W : World) (hT : StAt 5 NdR W At n t) (hM : SlAt (IntR .u32) W Am m table) (h32 : K.W32 table) :
    Calls Tryz.prog 17 #[.slice At n ct, .int .i64 w, .slice Am m cm] W (ConR (K.constant t w table) W) := by
  have HA := Lib.hid (rasked_any t 2 w n ct At W hT)
  obtain ⟨r, hr⟩ : ∃ r, r = K.constant t w table := ⟨_, rfl⟩
  rw [← hr]
  unfold K.constant at hr
  by_cases ha : K.askedT t 2 w = 0
  · have hkw := K.asked_kw ha
    rw [if_neg (by simpa using ha)] at hr
    rw [ha] at HA
    obtain ⟨wN, rfl⟩ : ∃ wN : Nat, w = wN := ⟨w.toNat, by omega⟩
    have hw : wN = 1 ∨ wN = 2 ∨ wN = 3 := by omega
    rw [Int.toNat_natCast] at hr
    have HI := Lib.hid (fun X (h : Below W.heap.size W X) => risTable1 wN hw Am m cm table X (hM.below (monoInt _) h) h32)
    have hle := hM.le
    have HM := Lib.hid hM
    cases hi : K.isTable 1 wN table
    · rw [hi] at HI
      rw [hi, if_pos rfl] at hr
      have Hr := Lib.hid hr
      clear hr hT hM ha hi hkw hw h32
      go_enter Tryz.func17, Tryz.ntmps17
      go_wp2_with fail
      (with_reducible refine HA.out.mono ?_)
      rintro e w1 ⟨rfl, hb1⟩
      have Hb1 := Lib.hid hb1
      clear hb1
      go_wp2_with fail
      (with_reducible refine (HI.out _ Hb1.out).mono ?_)
      rintro e w' ⟨rfl, rfl⟩
      go_wp2
      go_ret3
      exact ConR.mk_ Hr.out Hb1.out rfl
    · rw [hi] at HI
      rw [hi, if_neg (by simp)] at hr
      have hlen : table.length = 2 ^ wN := by
        unfold K.isTable at hi
        simp only [Bool.and_eq_true, decide_eq_true_eq] at hi
        rw [hi.1]; unfold K.size; rw [Nat.one_mul]
      have hmN : 2 ^ wN = m := by rw [← hM.len]; exact hlen.symm
      obtain ⟨hv, hom1, hom2⟩ := K.asked_om (k := 2) ha
      have hln := hT.len
      obtain ⟨v1, v2, _, _, _⟩ := valid_ok hv
      rw [hln] at v1 v2
      have HEv := Lib.hid (fun (x c : Nat) (hx : x < 2 ^ wN) (hc : c < 2 ^ wN) X Ae (hb : Below W.heap.size W X) (hE : SlAt (IntR .u32) X Ae 4 (K.envOf [(x : Int), (c : Int)])) => rBelow_any t _ n ct 4 At Ae X (hT.below monoNd hb) hE (T.std_of hv (nd_imm hT) (by
        have h2 := K.inp2_at hx hc
        rw [← h2.1]
        exact K.env_ok (.inr rfl) (by omega) h2.2 hom1 hom2)) (by omega))
      have hcf : ∀ c, K.cfit t table c = (List.range (2 ^ wN)).all fun x => decide (K.cval t x c = table.getD x 0) := fun c => by unfold K.cfit; rw [hlen]
      have Hvl := Lib.hid (fun env => (T.vals_len t env).trans hln)
      have Hcv := Lib.hid (fun (x c : Nat) => show K.cval t x c = (T.vals t (K.envOf [(x : Int), (c : Int)])).getD (n - 1) 0 from by unfold K.cval; rw [hln])
      obtain ⟨hp1, hp2, hp3⟩ := pow_facts hw
      rw [hmN] at hr hcf HEv hp1 hp2 hp3
      have Hcf := Lib.hid hcf
      have Hr := Lib.hid hr
      have hs1 : ((n : Int) - 1).toNat = n - 1 := by omega
      clear hr hT hM ha hi hlen hmN hcf hv hom1 hom2 h32 hw hln
      generalize hPf : K.cfit t table = pf at Hcf Hr
      clear hPf
      go_enter Tryz.func17, Tryz.ntmps17
      go_wp2_with fail
      (with_reducible refine HA.out.mono ?_)
      rintro e w1 ⟨rfl, hb1⟩
      have Hb1 := Lib.hid hb1
      clear hb1
      go_wp2_with fail
      (with_reducible refine (HI.out _ Hb1.out).mono ?_)
      rintro e w' ⟨rfl, rfl⟩
      go_wp2
      clear HA HI
      go_loopg [10] (m + 1) (fun gh i wr => ∃ c : Nat, c ≤ m ∧ i = .int .i64 (c : Int) ∧ gh + c = m + 1 ∧ Hid (∀ d, d < c → pf d = false) ∧ Hid (Below W.heap.size W wr))
      case atStart => exact ⟨0, Nat.zero_le _, rfl, rfl, Lib.hid (fun d hd => by omega), Hb1⟩
      case round =>
        obtain ⟨gO, rfl⟩ : ∃ g, g = gk := ⟨_, rfl⟩
        obtain ⟨wo, rfl⟩ : ∃ x, x = wr := ⟨wr, rfl⟩
        obtain ⟨c, hc, rfl, hgk, Hno, Hbo⟩ := hrel
        have HgO := Lib.hid hgk; clear hgk
        by_cases hcm : c < m
        · go_wp2
          rw [hp1]
          go_loopg [11, 12] (m + 1) (fun gh f i wr => ∃ x : Nat, x ≤ m ∧ i = .int .i64 (x : Int) ∧ gh + x = m + 1 ∧ f = .bool ((List.range x).all fun x => decide (K.cval t x c = table.getD x 0)) ∧ Hid (Below W.heap.size W wr))
          case atStart => exact ⟨0, Nat.zero_le _, rfl, rfl, rfl, Hbo⟩
          case round =>
            obtain ⟨x, hx, rfl, hgk, rfl, Hbi⟩ := hrel
            have Hgk := Lib.hid hgk; clear hgk
            cases hf : (List.range x).all fun x => decide (K.cval t x c = table.getD x 0)
            · have Hp := Lib.hid (show pf c = false from by rw [Hcf.out]; exact K.all_cut hx hf)
              clear hf
              by_cases hxm : x < m
              all_goals
                go_wp2
                go_roundg (gO - 1)
                case measure => have := HgO.out; omega
                case rel => have := HgO.out; exact ⟨c + 1, by omega, by go_num, by omega, Lib.hid (fun d hd => by
                  rcases Nat.lt_or_ge d c with h | h
                  · exact Hno.out d h
                  · obtain rfl : d = c := by omega
                    exact Hp.out), Hbi⟩
            · by_cases hxm : x < m
              · obtain ⟨W5, hW5⟩ : ∃ W5, W5 = wr.alloc (.cells (((Array.replicate 4 (.int .u32 0)).setIfInBounds 0 (.int .u32 (x : Int))).setIfInBounds 1 (.int .u32 (c : Int))) 39) := ⟨_, rfl⟩
                have hmk := fun (W' : World) => run_make_n (P := Tryz.prog) 26 39 (.int .u32 0) 4 Tryz.underlying26 infoU32 rfl .i64 .i64 4 (4 : Int) rfl (by omega) (by omega) W'
                have hb5 : Below W.heap.size W W5 := by rw [hW5]; exact Hbi.out.alloc Hbi.out.size _
                have hr5 : W5.heap[wr.heap.size]? = some (.cells (fillC [(x : Int), (c : Int)] 4).toArray 39 (0, 0)) := by
                  rw [hW5]
                  exact heap_alloc_new wr _
                have hE := slAt_fill hr5 (by simp) (by omega)
                have HEv2 := Lib.hid (HEv.out x c hxm hcm W5 _ hb5 hE)
                have Hcv2 := Lib.hid (Hcv.out x c)
                have hvl := Hvl.out (K.envOf [(x : Int), (c : Int)])
                have Hx := Lib.hid (show (T.vals t (K.envOf [(x : Int), (c : Int)]))[n - 1]? = some ((T.vals t (K.envOf [(x : Int), (c : Int)])).getD (n - 1) 0) from by rw [T.getD_lt (by omega)]; exact List.getElem?_eq_getElem _)
                have Hnx := Lib.hid (K.all_snoc (p := fun x => decide (K.cval t x c = table.getD x 0)) x)
                rw [hf, Bool.true_and, Hcv2.out] at Hnx
                generalize T.vals t (K.envOf [(x : Int), (c : Int)]) = vl at HEv2 Hx Hnx
                generalize vl.getD (n - 1) 0 = ev at Hnx Hx
                have Hb5 := Lib.hid hb5
                have hcs : c ≤ 8 := by omega
                have hxs : x ≤ 8 := by omega
                clear hb5 hr5 hE hvl hf Hcv2
                go_wp2_with fail
                rw [← hW5]
                clear hW5 hmk
                (with_reducible refine HEv2.out.mono ?_)
                rintro e w7 ⟨v7, rfl, hown7, hb7, hob7⟩
                obtain ⟨Av, cv, rfl⟩ := hown7.form
                obtain ⟨y, bv, offv, uv, hy, hAv, _, hcv, huv⟩ := hown7.slInts.at_ (k := n - 1) (by omega)
                rw [Hx.out] at hy
                obtain rfl := Option.some.inj hy
                subst hAv
                have huv' : uv = .int .u32 _ := huv
                subst huv'
                have Hb7 := Lib.hid (Hb5.out.trans (hb7.mono Hb5.out.size))
                obtain ⟨y2, bm, offm, um, hy2, hAm, _, hcm2, hum⟩ := (HM.out.below (monoInt _) Hb7.out).at_ hxm
                subst hAm
                obtain rfl : um = .int .u32 y2 := hum
                rw [getD_of hy2] at Hnx
                clear hb7 hown7 hob7 hy2
                go_wp2
                go_quiet (fail)
                generalize hW8 : w7.drewN _ = w8
                have Hb8 := Lib.hid (Hb7.out.dr ⟨_, hW8.symm⟩)
                clear hW8 hcv hcm2
                go_wp2
                go_roundg (gk - 1)
                case measure => have := Hgk.out; omega
                case rel => have := Hgk.out; exact ⟨x + 1, by omega, by go_num, by omega, by rw [Hnx.out]; rfl, Hb8⟩
              · obtain rfl : x = m := by omega
                have hp : pf c = true := by rw [Hcf.out]; exact hf
                have Hfr := Lib.hid (show r = ((c : Int), true, 0) from by rw [Hr.out, K.find_here Hno.out hp hcm])
                have hcs : c ≤ 8 := by omega
                clear hp hf
                go_wp2
                go_ret3
                exact ConR.mk_ Hfr.out Hbi.out rfl
        · obtain rfl : c = m := by omega
          have Hfr := Lib.hid (show r = (0, false, 0) from by rw [Hr.out, K.find_nowhere Hno.out])
          go_wp2
          go_ret3
          exact ConR.mk_ Hfr.out Hbo.out rfl
  · rw [if_pos ha] at hr
    obtain ⟨er, her⟩ : ∃ er, er = K.askedT t 2 w := ⟨_, rfl⟩
    rw [← her] at hr ha HA
    have hvb : (er != 0) = true := by simpa using ha
    have Hr := Lib.hid hr
    clear hT hM hr ha her
    go_enter Tryz.func17, Tryz.ntmps17
    go_wp2_with fail
    (with_reducible refine HA.out.mono ?_)
    rintro e w1 ⟨rfl, hb1⟩
    have Hb1 := Lib.hid hb1
    clear hb1
    go_wp2
    go_ret3
    exact ConR.mk_ Hr.out Hb1.out rfl

set_option maxHeartbeats 1000000 in
theorem seekConstants_any (t : List T.Nd) (w : Int) (table : List Int) (n ct m cm : Nat) (At Am : Option Addr) (W : World) (hT : StAt 5 NdR W At n t) (hM : SlAt (IntR .u32) W Am m table) (h32 : K.W32 table) :
    Calls Tryz.prog 5 #[.slice At n ct, .int .i64 w, .slice Am m cm] W fun e w' => e = .returned (.bool true) ∧ Below W.heap.size W w' := by
  have HK := Lib.hid (fun W' => known_any W')
  have HL := Lib.hid (Long_any t n ct At W hT)
  have hle := hM.le
  have HP := Lib.hid (pConstant_any t w table n ct m cm At Am W hT hM)
  have HR := Lib.hid (fun X (h : Below W.heap.size W X) => rConstant_any t w table n ct m cm At Am X (hT.below monoNd h) (hM.below (monoInt _) h) h32)
  clear hT hM h32
  have hcase : T.long t = true ∨ (T.long t = false ∧ 1000 < m) ∨ (T.long t = false ∧ ¬ 1000 < m) := by
    cases T.long t
    · rcases Nat.lt_or_ge 1000 m with h | h
      · exact .inr (.inl ⟨rfl, h⟩)
      · exact .inr (.inr ⟨rfl, by omega⟩)
    · exact .inl rfl
  rcases hcase with hlong | ⟨hlong, hm⟩ | ⟨hlong, hm⟩
  · rw [hlong] at HL
    clear hlong
    go_enter Tryz.func5, Tryz.ntmps5
    go_wp2_with fail
    (with_reducible refine HL.out.mono ?_)
    rintro e w' ⟨rfl, rfl⟩
    go_wp2_with fail
    (with_reducible refine (HK.out _).mono ?_)
    rintro e w5 ⟨rfl, hb5⟩
    have Hb5 := Lib.hid hb5
    clear hb5
    go_wp2
    go_ret
    exact ⟨rfl, Hb5.out⟩
  · rw [hlong] at HL
    clear hlong
    go_enter Tryz.func5, Tryz.ntmps5
    go_wp2_with fail
    (with_reducible refine HL.out.mono ?_)
    rintro e w' ⟨rfl, rfl⟩
    go_wp2_with fail
    (with_reducible refine (HK.out _).mono ?_)
    rintro e w5 ⟨rfl, hb5⟩
    have Hb5 := Lib.hid hb5
    clear hb5
    go_wp2
    go_ret
    exact ⟨rfl, Hb5.out⟩
  · rw [hlong] at HL
    clear hlong
    generalize K.constant t w table = r at HP HR
    obtain ⟨a, b, c⟩ := r
    go_enter Tryz.func5, Tryz.ntmps5
    go_wp2_with fail
    (with_reducible refine HL.out.mono ?_)
    rintro e w' ⟨rfl, rfl⟩
    go_wp2_with fail
    (with_reducible refine HP.out.mono ?_)
    rintro e w2 ⟨hb2, rfl⟩
    have Hb2 := Lib.hid hb2
    clear hb2
    go_wp2_with fail
    (with_reducible refine (HR.out _ Hb2.out).mono ?_)
    rintro e w3 ⟨hb3, rfl⟩
    have Hb3 := Lib.hid (Hb2.out.trans (hb3.mono Hb2.out.size))
    clear hb3
    go_wp2_with fail
    (with_reducible refine (HK.out _).mono ?_)
    rintro e w5 ⟨rfl, hb5⟩
    have Hb5 := Lib.hid (Hb3.out.trans (hb5.mono Hb3.out.size))
    clear hb5
    go_wp2
    go_ret
    exact ⟨rfl, Hb5.out⟩
end Go.Proofs.YtableoihgkmbjaaGreat
