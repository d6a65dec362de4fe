/- Merged: C4KF0, C4KF1, C4KE5, C4KE6, C4KE7, C4KE8, C4KE9, C4KEA. -/
import Derived.Test.YtbiopedpceddeaaGreatDoorW28
import Derived.Test.YtbiopedpceddeaaGreatDoorW29
import Derived.Lib.ConvBytes
import Derived.Test.YtbiopedpceddeaaGreatDoorW19
set_option linter.unusedVariables false
set_option linter.unusedSimpArgs false
section
namespace Go.Proofs.YtbiopedpceddeaaGreatDoor
open Go.RowKit
set_option linter.unusedVariables false
set_option linter.unusedSimpArgs false
namespace KT
/-- three cells are a rule -/
def RlR (W : World) (us : List Value) (r : R.Rl) : Prop :=
  ∃ (nl cl nr cr np cp : Nat) (AL AR AP : Option Addr), us = [.slice AL nl cl, .slice AR nr cr, .slice AP np cp] ∧ RlAt W r nl nr np AL AR AP
theorem monoRl : MonoL RlR := fun w w' us r hb ⟨nl, cl, nr, cr, np, cp, AL, AR, AP, e, h⟩ => ⟨nl, cl, nr, cr, np, cp, AL, AR, AP, e, h.below hb⟩
/-- .. and stay one, whatever turns within N -/
def RlX (N : Nat → Prop) (w : World) (us : List Value) (r : R.Rl) : Prop :=
  ∃ (nl cl nr cr np cp : Nat) (AL AR AP : Option Addr), us = [.slice AL nl cl, .slice AR nr cr, .slice AP np cp] ∧ ∀ w', Kpm N w w' → RlAt w' r nl nr np AL AR AP
section
variable {N N' F F' : Nat → Prop} {w w' W : World} {us : List Value} {r : R.Rl} {v : Value} {rs : List R.Rl} {B : Nat}
theorem RlX.now (h : RlX N w us r) : RlR w us r := by
  obtain ⟨nl, cl, nr, cr, np, cp, AL, AR, AP, e, h⟩ := h
  exact ⟨nl, cl, nr, cr, np, cp, AL, AR, AP, e, h w (Kpm.refl _ _)⟩
theorem RlX.step (h : RlX N w us r) (k : Kpm N w w') (hN : ∀ i, i < w.heap.size → N' i → N i) : RlX N' w' us r := by
  obtain ⟨nl, cl, nr, cr, np, cp, AL, AR, AP, e, h⟩ := h
  exact ⟨nl, cl, nr, cr, np, cp, AL, AR, AP, e, fun w2 h2 => h w2 (k.trans h2 hN)⟩
theorem RlX.len (h : RlX N w us r) : us.length = 3 := by
  obtain ⟨nl, cl, nr, cr, np, cp, AL, AR, AP, rfl, h⟩ := h
  rfl
theorem own_kpm {T : TypeId} {s n : Nat} {xs : List Value} (h : OwnAt w T s v n xs) (hB : ∀ g, v.ownBlock = some g → B ≤ g) (k : Kpm N w w') (hN : ∀ i, i < w.heap.size → N i → i < B) : OwnAt w' T s v n xs :=
  h.same fun g hg => k.block g (h.lt g hg) fun hn => by
    have h1 := hB g hg
    have h2 := hN g (h.lt g hg) hn
    omega
theorem ownR_kpm {nds : List T.Nd} (h : OwnR (NdF B) B w v nds) (k : Kpm N w w') (hN : ∀ i, i < w.heap.size → N i → i < B) : OwnR (NdF B) B w' v nds := by
  obtain ⟨cells, h1, h2, h3⟩ := h
  refine ⟨cells, own_kpm h1 h3 k hN, fun j x hx => ?_, h3⟩
  obtain ⟨A, c, e1, e2, e3, e4, e5⟩ := h2 j x hx
  exact ⟨A, c, e1, own_kpm e2 e5 k hN, e3, e4, e5⟩
theorem ownC_kpm {cs : List R.Cd} (h : OwnC B w v cs) (k : Kpm N w w') (hN : ∀ i, i < w.heap.size → N i → i < B) : OwnC B w' v cs := by
  obtain ⟨us, h1, h2, h3⟩ := h
  exact ⟨us, own_kpm h1 h3 k hN, fun j x hx => h2 j x hx, h3⟩
/-- The slice v, of the call's own, holds these rules: they stay while v's array and F turn. -/
def OwnL (F : Nat → Prop) (w : World) (v : Value) (rs : List R.Rl) : Prop :=
  ∃ cells, OwnAt w 33 3 v rs.length cells ∧ ∀ (k : Nat) (r : R.Rl), rs[k]? = some r → RlX (fun i => F i ∨ v.ownBlock = some i) w ((cells.drop (k * 3)).take 3) r
theorem OwnL.nil_ (F : Nat → Prop) (w : World) : OwnL F w (.slice none 0 0) [] := ⟨[], OwnAt.nil_ _ _ _, fun k r h => by simp at h⟩
theorem OwnL.form (h : OwnL F w v rs) : ∃ A c, v = .slice A rs.length c := by
  obtain ⟨cells, h1, _⟩ := h
  exact h1.form
theorem OwnL.lt (h : OwnL F w v rs) : ∀ g, v.ownBlock = some g → g < w.heap.size := by
  obtain ⟨cells, h1, _⟩ := h
  exact h1.lt
theorem OwnL.step (h : OwnL F w v rs) (k : Kpm N w w') (hN : ∀ i, i < w.heap.size → N i → F i) (hv : ∀ g, v.ownBlock = some g → ¬ N g) (hF : ∀ i, i < w.heap.size → F' i → F i) : OwnL F' w' v rs := by
  obtain ⟨cells, h1, h2⟩ := h
  exact ⟨cells, h1.same fun g hg => k.block g (h1.lt g hg) (hv g hg), fun j r hr => (h2 j r hr).step (k.weak fun i hi hn => .inl (hN i hi hn)) fun i hi h => h.imp (hF i hi) id⟩
theorem OwnL.below (h : OwnL F w v rs) (hb : Below w.heap.size w w') : OwnL F w' v rs :=
  h.step (N := fun _ => False) (Kpm.of_below hb _) (fun _ _ h => h.elim) (fun _ _ h => h) fun _ _ h => h
theorem OwnL.stAt {A : Option Addr} {n c : Nat} (h : OwnL F w (.slice A n c) rs) (hn : rs.length = n) : StAt 3 RlR w A n rs := by
  obtain ⟨cells, h1, h2⟩ := h
  rw [hn] at h1
  exact h1.stAt hn fun k x hx => (h2 k x hx).now
end
theorem infoRule : (Tryz.prog.info? 33).map (fun i => (i.zero, i.size, i.bytes)) = some (some (.agg #[.slice none 0 0, .slice none 0 0, .slice none 0 0]), 3, 72) := by kernel_rfl

end KT
end Go.Proofs.YtbiopedpceddeaaGreatDoor
end
section
namespace Go.Proofs.YtbiopedpceddeaaGreatDoor
open Go.RowKit Go.Lib
set_option linter.unusedVariables false
set_option linter.unusedSimpArgs false
namespace KT
theorem bytes_eq {k j : List UInt8} : ((⟨k.toArray⟩ : ByteArray) = ⟨j.toArray⟩) ↔ k = j := by
  constructor
  · intro h
    injection h with h
    simpa using h
  · rintro rfl
    rfl
/-- a rule that can be written -/
structure Wrt (r : R.Rl) : Prop where
  nl : r.left.length ≤ 100
  nr : r.right.length ≤ 100
  np : r.pre.length ≤ 100
  l : ∀ x ∈ r.left, NdI x
  q : ∀ x ∈ r.right, NdI x
  p : ∀ c ∈ r.pre, CdI c
theorem Wrt.zero : Wrt ⟨[], [], []⟩ := ⟨by simp, by simp, by simp, fun _ h => (by cases h), fun _ h => (by cases h), fun _ h => (by cases h)⟩
theorem wrt_of_valid {W : World} {r : R.Rl} {us : List Value} (h : RlR W us r) (hv : R.rvalid r = 0) : Wrt r := by
  obtain ⟨nl, cl, nr, cr, np, cp, AL, AR, AP, e, h⟩ := h
  have hok := R.rok_of hv
  exact ⟨by have := hok.llen; omega, by have := hok.rlen; omega, by have := hok.plen; omega, node_ndI hok.lp hok.llen (nd_rng h.sl), node_ndI hok.rp hok.rlen (nd_rng h.sr), cond_cdI h hok⟩
theorem ndS_of {p : List T.Nd} {right : Bool} (hp : ∀ k x, p[k]? = some x → R.pnode p right k x = true) (hl : p.length ≤ 12) (hi : ∀ x ∈ p, 0 ≤ x.imm ∧ x.imm < 4294967296) : ∀ x ∈ p, NdS x := fun x hx => by
  obtain ⟨k, hk⟩ := List.mem_iff_getElem?.1 hx
  have h := hp k x hk
  have h2 := R.par_bd (R.pnode_len h).2
  have h3 := R.pnode_w h
  have h4 := R.flOk_bd (R.pnode_flags h)
  have hk2 := (List.getElem?_eq_some_iff.1 hk).1
  refine ⟨⟨by omega, by omega⟩, ⟨by omega, by omega⟩, ⟨by omega, by omega⟩, hi x hx, fun a ha => ?_⟩
  have := R.pnode_ord hp k x hk a ha
  exact ⟨by omega, by omega⟩
/-- the numbers of a valid rule are of 32 bits -/
theorem rls_of_valid {W : World} {r : R.Rl} {us : List Value} (h : RlR W us r) (hv : R.rvalid r = 0) : RlS r := by
  obtain ⟨nl, cl, nr, cr, np, cp, AL, AR, AP, e, h⟩ := h
  have hok := R.rok_of hv
  refine ⟨ndS_of hok.lp hok.llen (nd_rng h.sl), ndS_of hok.rp hok.rlen (nd_rng h.sr), fun c hc => ?_⟩
  have hcd := List.all_eq_true.1 hok.cd c hc
  have hi := (cond_cdI h hok c hc).imm
  unfold R.cdOk at hcd
  simp only [Bool.and_eq_true, decide_eq_true_eq] at hcd
  exact ⟨⟨by omega, by omega⟩, ⟨by omega, by omega⟩, hi⟩
end KT
end Go.Proofs.YtbiopedpceddeaaGreatDoor
end
section
namespace Go.Proofs.YtbiopedpceddeaaGreatDoor
open Go.RowKit Go.Maps Go.Lib
set_option linter.unusedVariables false
set_option linter.unusedSimpArgs false
namespace KT
theorem sumT_snoc (n : Int) (t : List UInt8) (b : UInt8) : sumT n (t ++ [b]) = sumStep (sumT n t) b := by unfold sumT; rw [List.foldl_append]; rfl
theorem tmod_emod (n : Int) : (if n.tmod 1000003 < 0 then n.tmod 1000003 + 1000003 else n.tmod 1000003) = n % 1000003 := by
  rw [Int.tmod_eq_emod]
  split <;> split <;> omega

set_option maxRecDepth 100000 in
set_option maxHeartbeats 4000000 in
theorem rSum_any {n : Int} (hn : I64 n) {t : List UInt8} (ht : t.length ≤ 4611686018427387904) {W : World} :
    Calls Tryz.prog 30 #[.int .i64 n, .string ⟨t.toArray⟩] W fun e w' => e = .returned (.int .i64 (sumT n t)) ∧ W = w' := by
  obtain ⟨n0, n1⟩ := hn
  have hz : (1000003 : Int) ≠ 0 := by decide
  go_enter Tryz.func30, Tryz.ntmps30
  go_upto_if 10 with (fail)
  obtain ⟨m, hm⟩ : ∃ m, n.tmod 1000003 = m := ⟨_, rfl⟩
  have Hm := Lib.hid (show (if m < 0 then m + 1000003 else m) = n % 1000003 from by rw [← hm]; exact tmod_emod n)
  have hr : -1000003 < m ∧ m < 1000003 := by
    rw [← hm, Int.tmod_eq_emod]
    split <;> omega
  rw [hm]
  clear hm
  go_cut [5] (fun s5 wx => s5 = .int .i64 (n % 1000003) ∧ W = wx)
  case first =>
    by_cases hl : m < 0
    · have Hl := Lib.hid hl
      go_wp2_with fail
      go_meet
      have := Hm.out
      rw [if_pos Hl.out] at this
      exact ⟨by rw [← this], rfl⟩
    · have Hl := Lib.hid hl
      go_wp2_with fail
      go_meet
      have := Hm.out
      rw [if_neg (show ¬ m < 0 from by have := Hl.out; omega)] at this
      exact ⟨by rw [← this], rfl⟩
  case rest =>
    obtain ⟨rfl, rfl⟩ := hcut
    go_wp2_with fail
    go_loopg [5, 6] (t.length + 1) (fun gg s5 s6 wr => ∃ j : Nat, j ≤ t.length ∧ s5 = .int .i64 (sumT n (t.take j)) ∧ s6 = .int .i64 (j : Int) ∧ gg + j = t.length + 1 ∧ W = wr)
    case atStart => exact ⟨0, Nat.zero_le _, rfl, rfl, by omega, rfl⟩
    case round =>
      obtain ⟨j, hj, rfl, rfl, hgk, rfl⟩ := hrel
      have Hgk := Lib.hid hgk
      clear hgk
      obtain ⟨s, hs⟩ : ∃ s, s = sumT n (t.take j) := ⟨_, rfl⟩
      have hsr : 0 ≤ s ∧ s < 1000003 := by rw [hs]; exact sumT_range _ _
      have Hs := Lib.hid hs
      rw [← hs]
      clear hs
      by_cases hjn : j < t.length
      · have hb := List.getElem?_eq_getElem hjn
        obtain ⟨b, hbe⟩ : ∃ b, b = t[j] := ⟨_, rfl⟩
        rw [← hbe] at hb
        have hbn : b.toNat < 256 := b.toNat_lt
        have Hb := Lib.hid hb
        have Hbe := Lib.hid hbe
        have Hsr := Lib.hid hsr
        have Hbn := Lib.hid hbn
        clear hb hbe
        go_wp2
        go_roundg (gk - 1)
        case measure => have := Hgk.out; omega
        case rel =>
          have := Hgk.out
          refine ⟨j + 1, by omega, ?_, by go_num, by omega, rfl⟩
          rw [List.take_add_one, Hb.out, Option.toList_some, sumT_snoc, ← Hs.out]
          have key : (wrap64 (wrap64 (s * 257 + wrap64 (b.toNat : Int)) + 1)).tmod 1000003 = sumStep s b := by
            obtain ⟨h0, h1⟩ := Hsr.out
            have h2 := Hbn.out
            rw [show wrap64 (b.toNat : Int) = b.toNat from by unfold wrap64; omega, show wrap64 (s * 257 + (b.toNat : Int)) = s * 257 + b.toNat from by unfold wrap64; omega, show wrap64 (s * 257 + (b.toNat : Int) + 1) = s * 257 + b.toNat + 1 from by unfold wrap64; omega, Int.tmod_eq_emod_of_nonneg (by omega)]
            rfl
          rw [Hbe.out] at key ⊢
          exact congrArg (Value.int .i64) key
      · obtain rfl : j = t.length := by omega
        have Hf := Lib.hid (show sumT n t = s from by rw [Hs.out, List.take_length])
        go_wp2
        go_ret
        exact ⟨by rw [Hf.out]; rfl, rfl⟩
end KT
end Go.Proofs.YtbiopedpceddeaaGreatDoor
end
section
namespace Go.Proofs.YtbiopedpceddeaaGreatDoor
open Go.RowKit Go.Maps Go.Lib
set_option linter.unusedVariables false
set_option linter.unusedSimpArgs false
namespace KT
theorem tmod_emod2 (n : Int) : ((n.tmod 1000003) + 1000003).tmod 1000003 = n % 1000003 := by
  rw [Int.tmod_eq_emod (a := n)]
  split <;> rw [Int.tmod_eq_emod_of_nonneg (by omega)] <;> omega

theorem bytes_below (w : World) (e : TypeId) (s : ByteArray) : Below w.heap.size w (Lib.bytesWorld w e s) :=
  ⟨rfl, rfl, rfl, by rw [Lib.bytesWorld_size]; omega, fun k hk => Lib.bytesWorld_at_old w e s k hk⟩

set_option maxRecDepth 100000 in
set_option maxHeartbeats 4000000 in
theorem Sum_any {n : Int} (hn : I64 n) {t : List UInt8} (ht : t.length ≤ 140737488355328) {W : World} :
    Calls Tryz.prog 29 #[.int .i64 n, .string ⟨t.toArray⟩] W fun e w' => e = .returned (.int .i64 (sumT n t)) ∧ Below W.heap.size W w' := by
  obtain ⟨n0, n1⟩ := hn
  obtain ⟨m, hm⟩ : ∃ m, n.tmod 1000003 = m := ⟨_, rfl⟩
  have hr : -1000003 < m ∧ m < 1000003 := by
    rw [← hm, Int.tmod_eq_emod]
    split <;> omega
  have Hm := Lib.hid (show (m + 1000003).tmod 1000003 = n % 1000003 from by rw [← hm]; exact tmod_emod2 n)
  have Hmm := Lib.hid hm
  clear hm
  go_enter Tryz.func29, Tryz.ntmps29
  go_upto_region 2 with (fail)
  (try rw [Hmm.out])
  have hw : wrap64 (m + 1000003) = m + 1000003 := by unfold wrap64; omega
  (try rw [hw])
  (try rw [Hm.out])
  have hcv := fun w => Lib.run_convert_string_bytes (P := Tryz.prog) w 9 117 5 ⟨t.toArray⟩ Tryz.underlying9 Tryz.underlying117 Tryz.underlying5
  obtain ⟨W2, hW2⟩ : ∃ W2, W2 = Lib.bytesWorld W 5 ⟨t.toArray⟩ := ⟨_, rfl⟩
  have Hb2 := Lib.hid (show Below W.heap.size W W2 from by rw [hW2]; exact bytes_below _ _ _)
  have Hc := Lib.hid (show ∀ (j : Nat) (b : UInt8), t[j]? = some b → W2.cell? ⟨W.heap.size, j, none⟩ = some (.int .u8 b.toNat) from fun j b hb => by
    have hj := (List.getElem?_eq_some_iff.1 hb).1
    have h := Lib.bytesWorld_cell W 5 ⟨t.toArray⟩ j (show j < t.toArray.size from by simpa using hj)
    rw [hW2, h]
    simp [List.getD, hb])
  go_wp2_with fail
  (try rw [← hW2])
  clear hcv hW2
  go_loopg [5, 15] (t.length + 1) (fun gg s5 s6 wr => ∃ j : Nat, j ≤ t.length ∧ s5 = .int .i64 (sumT n (t.take j)) ∧ s6 = .int .i64 (j : Int) ∧ gg + j = t.length + 1 ∧ W2 = wr)
  case atStart => exact ⟨0, Nat.zero_le _, rfl, rfl, by omega, rfl⟩
  case round =>
    obtain ⟨j, hj, rfl, rfl, hgk, rfl⟩ := hrel
    have Hgk := Lib.hid hgk
    clear hgk
    obtain ⟨s, hs⟩ : ∃ s, s = sumT n (t.take j) := ⟨_, rfl⟩
    have hsr : 0 ≤ s ∧ s < 1000003 := by rw [hs]; exact sumT_range _ _
    have Hs := Lib.hid hs
    rw [← hs]
    clear hs
    by_cases hjn : j < t.length
    · have hb := List.getElem?_eq_getElem hjn
      obtain ⟨b, hbe⟩ : ∃ b, b = t[j] := ⟨_, rfl⟩
      rw [← hbe] at hb
      have hbn : b.toNat < 256 := b.toNat_lt
      have Hb := Lib.hid hb
      have cj := Hc.out j b hb
      obtain ⟨z, hz⟩ : ∃ z : Int, z = (b.toNat : Int) := ⟨_, rfl⟩
      rw [← hz] at cj
      have Hz := Lib.hid hz
      have Hsr := Lib.hid hsr
      have Hbn := Lib.hid hbn
      clear hb hbe hz
      go_wp2
      go_roundg (gk - 1)
      case measure => have := Hgk.out; omega
      case rel =>
        have := Hgk.out
        refine ⟨j + 1, by omega, ?_, by go_num, by omega, rfl⟩
        rw [List.take_add_one, Hb.out, Option.toList_some, sumT_snoc, ← Hs.out]
        have key : (wrap64 (wrap64 (s * 257 + wrap64 (b.toNat : Int)) + 1)).tmod 1000003 = sumStep s b := by
          obtain ⟨h0, h1⟩ := Hsr.out
          have h2 := Hbn.out
          rw [show wrap64 (b.toNat : Int) = b.toNat from by unfold wrap64; omega, show wrap64 (s * 257 + (b.toNat : Int)) = s * 257 + b.toNat from by unfold wrap64; omega, show wrap64 (s * 257 + (b.toNat : Int) + 1) = s * 257 + b.toNat + 1 from by unfold wrap64; omega, Int.tmod_eq_emod_of_nonneg (by omega)]
          rfl
        rw [← Hz.out] at key
        exact congrArg (Value.int .i64) key
    · obtain rfl : j = t.length := by omega
      have Hf := Lib.hid (show sumT n t = s from by rw [Hs.out, List.take_length])
      go_wp2
      go_ret
      exact ⟨by rw [Hf.out]; rfl, Hb2.out⟩
end KT
end Go.Proofs.YtbiopedpceddeaaGreatDoor
end
section
namespace Go.Proofs.YtbiopedpceddeaaGreatDoor
open Go.RowKit Go.Maps Go.Lib
set_option linter.unusedVariables false
set_option linter.unusedSimpArgs false
namespace KT
set_option maxRecDepth 100000 in
set_option maxHeartbeats 4000000 in
theorem rnumber_any {t : List UInt8} (ht : t.length ≤ 4611686018427387904) {W : World} :
    Calls Tryz.prog 142 #[.string ⟨t.toArray⟩] W fun e w' => e = .returned (.int .i64 (rnum t)) ∧ W = w' := by
  go_enter Tryz.func142, Tryz.ntmps142
  go_wp2_with fail
  go_loopg [3, 4] (t.length + 1) (fun gg s3 s4 wr => ∃ (j : Nat) (n : Int), j ≤ t.length ∧ s3 = .int .i64 n ∧ s4 = .int .i64 (j : Int) ∧ gg + j = t.length + 1 ∧ 0 ≤ n ∧ n ≤ 50000000000 ∧ Hid (rnum t = rnumFrom n (t.drop j)) ∧ W = wr)
  case atStart => exact ⟨0, 0, Nat.zero_le _, rfl, rfl, by omega, by omega, by omega, Lib.hid rfl, rfl⟩
  case round =>
    obtain ⟨j, n, hj, rfl, rfl, hgk, hn0, hn1, Hn, rfl⟩ := hrel
    have Hgk := Lib.hid hgk
    clear hgk
    by_cases hjn : j < t.length
    · have hd : t.drop j = t[j] :: t.drop (j + 1) := List.drop_eq_getElem_cons hjn
      obtain ⟨B, hB⟩ : ∃ B, B = t[j] := ⟨_, rfl⟩
      rw [← hB] at hd
      have hB2 : (⟨t.toArray⟩ : ByteArray)[j]'(show j < t.toArray.size from by simpa using hjn) = B := by rw [hB]; rfl
      have hbn : B.toNat < 256 := B.toNat_lt
      have Hn2 := Lib.hid (show rnum t = if B.toNat < 48 ∨ 57 < B.toNat ∨ 4294967296 ≤ n then 0 else rnumFrom (10 * n + ((B.toNat : Int) - 48)) (t.drop (j + 1)) from by rw [Hn.out, hd]; rfl)
      obtain ⟨k, hk⟩ : ∃ k, B.toNat = k := ⟨_, rfl⟩
      rw [hk] at Hn2 hbn
      clear Hn hd hB
      by_cases h1 : k < 48
      · have Hz := Lib.hid (show rnum t = 0 from by rw [Hn2.out, if_pos (.inl h1)])
        go_wp2
        go_ret
        exact ⟨by rw [Hz.out]; rfl, rfl⟩
      have q1 : decide ((k : Int) < 48) = false := decide_eq_false (by omega)
      have g1 : ¬ (k : Int) < 48 := by omega
      by_cases h2 : 57 < k
      · have Hz := Lib.hid (show rnum t = 0 from by rw [Hn2.out, if_pos (.inr (.inl h2))])
        have q2 : decide (57 < (k : Int)) = true := decide_eq_true (by omega)
        have g2 : 57 < (k : Int) := by omega
        go_wp2
        go_ret
        exact ⟨by rw [Hz.out]; rfl, rfl⟩
      have q2 : decide (57 < (k : Int)) = false := decide_eq_false (by omega)
      have g2 : ¬ 57 < (k : Int) := by omega
      by_cases h3 : 4294967296 ≤ n
      · have Hz := Lib.hid (show rnum t = 0 from by rw [Hn2.out, if_pos (.inr (.inr h3))])
        go_wp2
        go_ret
        exact ⟨by rw [Hz.out]; rfl, rfl⟩
      have Hz := Lib.hid (show rnum t = rnumFrom (10 * n + ((k : Int) - 48)) (t.drop (j + 1)) from by rw [Hn2.out, if_neg (by omega)])
      have Hk := Lib.hid (And.intro h1 (And.intro h2 h3))
      go_wp2
      go_roundg (gk - 1)
      case measure => have := Hgk.out; omega
      case rel =>
        have := Hgk.out
        have hk3 := Hk.out
        refine ⟨j + 1, 10 * n + ((k : Int) - 48), by omega, ?_, by go_num, by omega, by omega, by omega, Hz, rfl⟩
        rfl
    · obtain rfl : j = t.length := by omega
      have Hf := Lib.hid (show rnum t = if 4294967296 ≤ n then 0 else n from by
        rw [Hn.out, List.drop_length]
        rfl)
      by_cases h3 : 4294967296 ≤ n
      · have Hz := Lib.hid (show rnum t = 0 from by rw [Hf.out, if_pos h3])
        go_wp2
        go_ret
        exact ⟨by rw [Hz.out]; rfl, rfl⟩
      · have Hz := Lib.hid (show rnum t = n from by rw [Hf.out, if_neg h3])
        go_wp2
        go_ret
        exact ⟨by rw [Hz.out]; rfl, rfl⟩
end KT
end Go.Proofs.YtbiopedpceddeaaGreatDoor
end
section
namespace Go.Proofs.YtbiopedpceddeaaGreatDoor
open Go.RowKit Go.Maps Go.Lib
set_option linter.unusedVariables false
set_option linter.unusedSimpArgs false
namespace KT
/-- a variable that holds an error -/
def ErrAt (W : World) (g : Nat) : Prop := ∃ ev : Value, W.cell? ⟨g, 0, none⟩ = some ev ∧ (ev = .nilIface ∨ ∃ te pe, ev = .iface te pe)
theorem ErrAt.below {W W' : World} {g : Nat} (h : ErrAt W g) (hb : Below W.heap.size W W') : ErrAt W' g := by
  obtain ⟨ev, h1, h2⟩ := h
  obtain ⟨cs, ty, f, hc⟩ := cells_of_cell h1
  exact ⟨ev, (hb.cell (p := ⟨g, 0, none⟩) (Array.getElem?_eq_some_iff.1 hc).1).trans h1, h2⟩

theorem pu_cases (t : List UInt8) : (∃ u, parseUintB 32 t = .ok u) ∨ parseUintB 32 t = parseUintB 32 [] ∨ parseUintB 32 t = .range := by
  cases parseUintB 32 t
  · exact .inl ⟨_, rfl⟩
  · exact .inr (.inl rfl)
  · exact .inr (.inr rfl)
set_option maxRecDepth 100000 in
set_option maxHeartbeats 4000000 in
theorem number_any {t : List UInt8} (ht : t.length ≤ 140737488355328) {W : World} (h5 : ErrAt W 5) (h6 : ErrAt W 6) :
    Calls Tryz.prog 139 #[.string ⟨t.toArray⟩] W fun e w' => e = .returned (.int .i64 (num t)) ∧ Below W.heap.size W w' := by
  have hsz : (⟨t.toArray⟩ : ByteArray).size = t.length := by show t.toArray.size = _; simp
  have hdl : (⟨t.toArray⟩ : ByteArray).data.toList = t := by simp
  have hnum : num t = match parseUintB 32 t with | .ok u => (u : Int) | _ => 0 := rfl
  have hr := num_range t
  rcases pu_cases t with ⟨u, hp⟩ | hp | hp
  · skip
    have hn : num t = (u : Int) := by rw [hnum, hp]
    have HC := Lib.hid (Tryz.strconv_ParseUint_10_at32_ok ⟨t.toArray⟩ (by rw [hsz]; omega) u (by rw [hdl]; exact hp) W)
    have Hn := Lib.hid hn
    rw [hn] at hr
    have hw : IntKind.i64.wrap (u : Int) = u := by rw [IntKind.wrap_i64]; omega
    have hw2 : wrap64 (u : Int) = u := by unfold wrap64; omega
    clear hsz hdl hnum hn hp
    go_enter Tryz.func139, Tryz.ntmps139
    go_wp2_with fail
    (with_reducible refine HC.out.mono ?_)
    rintro e w2 ⟨rfl, hb⟩
    have Hb := Lib.hid (show Below W.heap.size W w2 from by
      rcases hb with rfl | rfl
      · exact Below.refl _ _
      · exact bytes_below _ _ _)
    clear hb
    go_wp2
    go_ret
    exact ⟨by rw [Hn.out]; rfl, Hb.out⟩
  · have hn : num t = 0 := by rw [hnum, hp]; rfl
    obtain ⟨ev, e1, e2⟩ := h5
    have HC := Lib.hid (Tryz.strconv_ParseUint_10_at32_fault ⟨t.toArray⟩ (by rw [hsz]; omega) (by rw [hdl]; exact hp) ev W e1 e2)
    have Hn := Lib.hid hn
    clear hsz hdl hnum hn hp hr
    go_enter Tryz.func139, Tryz.ntmps139
    go_wp2_with fail
    (with_reducible refine HC.out.mono ?_)
    rintro e w2 ⟨N, rfl, _, _, hb⟩
    have Hb := Lib.hid hb
    clear hb
    go_wp2
    go_ret
    exact ⟨by rw [Hn.out]; rfl, Hb.out⟩
  · have hn : num t = 0 := by rw [hnum, hp]
    obtain ⟨ev, e1, e2⟩ := h6
    have HC := Lib.hid (Tryz.strconv_ParseUint_10_at32_range ⟨t.toArray⟩ (by rw [hsz]; omega) (by rw [hdl]; exact hp) ev W e1 e2)
    have Hn := Lib.hid hn
    clear hsz hdl hnum hn hp hr
    go_enter Tryz.func139, Tryz.ntmps139
    go_wp2_with fail
    (with_reducible refine HC.out.mono ?_)
    rintro e w2 ⟨N, rfl, _, _, hb⟩
    have Hb := Lib.hid hb
    clear hb
    go_wp2
    go_ret
    exact ⟨by rw [Hn.out]; rfl, Hb.out⟩
end KT
end Go.Proofs.YtbiopedpceddeaaGreatDoor
end
section
namespace Go.Proofs.YtbiopedpceddeaaGreatDoor
open Go.RowKit Go.Maps Go.Lib
set_option linter.unusedVariables false
set_option linter.unusedSimpArgs false
namespace KT
theorem drop_cut {t : List UInt8} {f i : Nat} {b : UInt8} (hf : f ≤ i) (hb : t[i]? = some b) : t.drop f = (t.drop f).take (i - f) ++ b :: t.drop (i + 1) := by
  have hi := (List.getElem?_eq_some_iff.1 hb).1
  have h1 : (t.drop f).drop (i - f) = b :: t.drop (i + 1) := by
    rw [List.drop_drop, show f + (i - f) = i by omega, List.drop_eq_getElem_cons hi]
    rw [(List.getElem?_eq_some_iff.1 hb).2]
  rw [← h1, List.take_append_drop]
theorem take_snoc {t : List UInt8} {f i : Nat} {b : UInt8} (hf : f ≤ i) (hb : t[i]? = some b) : (t.drop f).take (i + 1 - f) = (t.drop f).take (i - f) ++ [b] := by
  rw [show i + 1 - f = (i - f) + 1 by omega, List.take_add_one, List.getElem?_drop, show f + (i - f) = i by omega, hb]
  rfl

set_option maxRecDepth 100000 in
set_option maxHeartbeats 4000000 in
theorem rcut_any {t : List UInt8} {c : UInt8} (ht : t.length ≤ 100000000) {W : World} :
    Calls Tryz.prog 140 #[.string ⟨t.toArray⟩, .int .u8 (c.toNat : Int)] W fun e w' => ∃ v, e = .returned v ∧ WS W w' v (pcs c t).length (pcs c t) := by
  have HS0 := Lib.hid (show WS W W (.slice none 0 0) 0 [] from ⟨rfl, OwnAt.nil_ _ _ _, Below.refl _ _, fun i e => by simp [Value.ownBlock] at e⟩)
  have hsz : t.toArray.size = t.length := by simp
  have hcn : c.toNat < 256 := c.toNat_lt
  go_enter Tryz.func140, Tryz.ntmps140
  go_wp2_with fail
  go_loopg [5, 6, 7] (t.length + 2) (fun gg s5 s6 s7 wr => ∃ (f i n : Nat) (v : Value) (ps : List (List UInt8)), f ≤ i ∧ i ≤ t.length + 1 ∧ n ≤ i ∧ s5 = v ∧ s6 = .int .i64 (f : Int) ∧ s7 = .int .i64 (i : Int) ∧ gg + i = t.length + 2 ∧ Hid (WS W wr v n ps) ∧ Hid ((i = t.length + 1 → ps = pcs c t) ∧ (i ≤ t.length → ps ++ pcs c (t.drop f) = pcs c t ∧ c ∉ (t.drop f).take (i - f))))
  case atStart => exact ⟨0, 0, 0, _, [], Nat.le_refl _, by omega, Nat.le_refl _, rfl, rfl, rfl, by omega, HS0, Lib.hid ⟨fun h => by omega, fun _ => ⟨rfl, by simp⟩⟩⟩
  case round =>
    obtain ⟨f, i, n, v, ps, hf, hi, hni, rfl, rfl, rfl, hgk, Hws, Hin⟩ := hrel
    have Hgk := Lib.hid hgk
    clear hgk
    obtain ⟨Av, cv, hv⟩ := Hws.out.o.form
    subst hv
    by_cases hil : i = t.length + 1
    · have He := Lib.hid (Hin.out.1 hil)
      subst hil
      go_wp2
      go_ret
      refine ⟨_, rfl, ?_⟩
      have h := Hws.out
      have hl := h.len
      rw [He.out] at h hl
      rw [hl]
      exact h
    · have hil2 : i ≤ t.length := by omega
      obtain ⟨h1, h2⟩ := Hin.out.2 hil2
      have H1 := Lib.hid h1
      have H2 := Lib.hid h2
      clear h1 h2
      obtain ⟨p, hp⟩ : ∃ p, p = (t.drop f).take (i - f) := ⟨_, rfl⟩
      have he : (⟨t.toArray⟩ : ByteArray).extract f i = ⟨p.toArray⟩ := by rw [Lib.extract_eq, hp]
      have Hp := Lib.hid hp
      rw [← hp] at H2
      clear hp
      by_cases hie : i = t.length
      · subst hie
        have q : ((t.length : Int) == (t.length : Int)) = true := by simp
        go_wp2_with (at_builtin; refine wpList_append_one' rfl (.tmp 25) (.tmp 30) 106 rfl 9 (.string ByteArray.empty) 16 Tryz.underlying106 infoS rfl _ n _ rfl Hws.out.o (.string ⟨p.toArray⟩) rfl 9 wr.heap.size rfl rfl (by omega) (by omega) ?_; intro v' wA hown hgr hat; have HsA := Lib.hid (Hws.out.app hown hgr hat); clear hown hgr hat)
        go_roundg (gk - 1)
        case measure => have := Hgk.out; omega
        case rel =>
          have := Hgk.out
          refine ⟨t.length + 1, t.length + 1, n + 1, v', _, Nat.le_refl _, Nat.le_refl _, by omega, rfl, by go_num, by go_num, by omega, HsA, Lib.hid ⟨fun _ => ?_, fun h => by omega⟩⟩
          have e : p = t.drop f := by rw [Hp.out, List.take_of_length_le (by rw [List.length_drop]; omega)]
          rw [← H1.out, ← e, pcs_not c p H2.out]
      · have hilt : i < t.length := by omega
        have q : ((i : Int) == (t.length : Int)) = false := by simp; omega
        obtain ⟨B, hB⟩ : ∃ B, B = t[i] := ⟨_, rfl⟩
        have hb : t[i]? = some B := by rw [hB]; exact List.getElem?_eq_getElem hilt
        have hB2 : (⟨t.toArray⟩ : ByteArray)[i]'(show i < t.toArray.size from by simpa using hilt) = B := by rw [hB]; rfl
        have Hcut := Lib.hid (drop_cut hf hb)
        have Htk := Lib.hid (take_snoc hf hb)
        clear hB hb
        by_cases hbc : B = c
        · subst hbc
          have q2 : ((B.toNat : Int) == (B.toNat : Int)) = true := by simp
          go_wp2_with (at_builtin; refine wpList_append_one' rfl (.tmp 25) (.tmp 30) 106 rfl 9 (.string ByteArray.empty) 16 Tryz.underlying106 infoS rfl _ n _ rfl Hws.out.o (.string ⟨p.toArray⟩) rfl 9 wr.heap.size rfl rfl (by omega) (by omega) ?_; intro v' wA hown hgr hat; have HsA := Lib.hid (Hws.out.app hown hgr hat); clear hown hgr hat)
          go_roundg (gk - 1)
          case measure => have := Hgk.out; omega
          case rel =>
            have := Hgk.out
            refine ⟨i + 1, i + 1, n + 1, v', _, Nat.le_refl _, by omega, by omega, rfl, by go_num, by go_num, by omega, HsA, Lib.hid ⟨fun h => by omega, fun _ => ⟨?_, by simp⟩⟩⟩
            rw [← H1.out, Hcut.out, ← Hp.out, pcs_app B _ p H2.out, List.append_assoc]
            rfl
        · have q2 : ((B.toNat : Int) == (c.toNat : Int)) = false := by
            simp only [beq_eq_false_iff_ne, ne_eq]
            exact fun e => hbc (UInt8.toNat_inj.1 (by omega))
          have Hbc := Lib.hid hbc
          clear hbc
          go_wp2
          go_roundg (gk - 1)
          case measure => have := Hgk.out; omega
          case rel =>
            have := Hgk.out
            refine ⟨f, i + 1, n, _, ps, by omega, by omega, by omega, rfl, rfl, by go_num, by omega, Hws, Lib.hid ⟨fun h => by omega, fun _ => ⟨H1.out, ?_⟩⟩⟩
            rw [Htk.out, ← Hp.out, List.mem_append]
            rintro (h | h)
            · exact H2.out h
            · exact Hbc.out (List.mem_singleton.1 h).symm
end KT
end Go.Proofs.YtbiopedpceddeaaGreatDoor
end
section
namespace Go.Proofs.YtbiopedpceddeaaGreatDoor
open Go.RowKit Go.Maps Go.Lib
set_option linter.unusedVariables false
set_option linter.unusedSimpArgs false
namespace KT
theorem pcs_size (c : UInt8) : ∀ s : List UInt8, (pcs c s).length ≤ s.length + 1 ∧ ∀ x ∈ pcs c s, x.length ≤ s.length := by
  intro s
  induction s with
  | nil => simp [pcs]
  | cons b l ih =>
    obtain ⟨h1, h2⟩ := ih
    unfold pcs
    split
    · refine ⟨by simp; omega, fun x hx => ?_⟩
      rcases List.mem_cons.1 hx with rfl | hx
      · simp
      · have := h2 x hx; simp; omega
    · cases hp : pcs c l with
      | nil => exact absurd hp (pcs_ne c l)
      | cons y r =>
        rw [hp] at h1 h2
        simp only [List.length_cons] at h1
        refine ⟨by simp; omega, fun x hx => ?_⟩
        simp only [List.headD_cons, List.tail_cons] at hx
        rcases List.mem_cons.1 hx with rfl | hx
        · have := h2 y (by simp); simp; omega
        · have := h2 x (by simp [hx]); simp; omega
/-- a word of a list in memory -/
theorem WS.cell {W w : World} {A : Option Addr} {c n : Nat} {ws : List (List UInt8)} (h : WS W w (.slice A n c) n ws) {j : Nat} {x : List UInt8} (hx : ws[j]? = some x) : ∃ g off, A = some ⟨g, off, none⟩ ∧ g < w.heap.size ∧ w.cell? ⟨g, off + j, none⟩ = some (.string ⟨x.toArray⟩) := by
  have hj := (List.getElem?_eq_some_iff.1 hx).1
  have hl := h.len
  rcases h.o.2 with ⟨e, h0⟩ | ⟨g, off, cap, cur, e, hg, q1, q2, q3, q4⟩
  · omega
  · cases e
    refine ⟨g, off, rfl, (Array.getElem?_eq_some_iff.1 hg).1, ?_⟩
    rw [cell_of_row _ _ _ _ _ (0, 0) hg]
    exact q4 j _ (by simp [ss, hx])

set_option maxRecDepth 100000 in
set_option maxHeartbeats 4000000 in
theorem rfields_any {t : List UInt8} (ht : t.length ≤ 100000000) {W : World} :
    Calls Tryz.prog 141 #[.string ⟨t.toArray⟩] W fun e w' => ∃ v, e = .returned v ∧ OwnAt w' 3 1 v (fieldsR t).length ((fieldsR t).map (Value.int .i64)) ∧ Below W.heap.size W w' ∧ ∀ i, v.ownBlock = some i → W.heap.size ≤ i := by
  have HC := Lib.hid (rcut_any (c := 46) ht (W := W))
  obtain ⟨ps, hps⟩ : ∃ ps, ps = pcs 46 t := ⟨_, rfl⟩
  rw [← hps] at HC
  have Hps := Lib.hid hps
  clear hps
  go_enter Tryz.func141, Tryz.ntmps141
  go_wp2_with fail
  (refine HC.out.mono ?_)
  rintro e w2 ⟨v, rfl, hws⟩
  obtain ⟨A, c, e⟩ := hws.o.form
  subst e
  have Hws := Lib.hid hws
  clear hws HC
  go_wp2_with fail
  have hpl : ps.length ≤ 100000001 := by have := (pcs_size 46 t).1; rw [Hps.out]; omega
  go_loopg [3, 5] (ps.length + 1) (fun gg s3 s5 wr => ∃ (j : Nat) (v : Value), j ≤ ps.length ∧ s3 = v ∧ s5 = .int .i64 (j : Int) ∧ gg + j = ps.length + 1 ∧ Hid (OwnAt wr 3 1 v j (((ps.take j).map rnum).map (Value.int .i64))) ∧ Hid (Below w2.heap.size w2 wr) ∧ Hid (∀ i, v.ownBlock = some i → w2.heap.size ≤ i))
  case atStart => exact ⟨0, .slice none 0 0, Nat.zero_le _, rfl, rfl, by omega, Lib.hid (OwnAt.nil_ _ _ _), Lib.hid (Below.refl _ _), Lib.hid (fun i e => by simp [Value.ownBlock] at e)⟩
  case round =>
    obtain ⟨j, v, hj, rfl, rfl, hgk, Ho, Hb, Hnw⟩ := hrel
    have Hgk := Lib.hid hgk
    clear hgk
    obtain ⟨Av, cv, hv⟩ := Ho.out.form
    subst hv
    by_cases hjl : j < ps.length
    · have hx := List.getElem?_eq_getElem hjl
      obtain ⟨x, hxe⟩ : ∃ x, x = ps[j] := ⟨_, rfl⟩
      rw [← hxe] at hx
      obtain ⟨g, off, rfl, hg, hc⟩ := (Hws.out.below (W1 := W) Hb.out).cell hx
      have Hx := Lib.hid hx
      have hxl : x.length ≤ 4611686018427387904 := by
        have h1 := (pcs_size 46 t).2 x (by rw [← Hps.out]; exact List.mem_of_getElem? hx)
        omega
      have Hnum := Lib.hid (rnumber_any hxl (W := wr))
      have Hs2 := Lib.hid (show w2.heap.size ≤ wr.heap.size from Hb.out.size)
      clear hx hxe hxl
      go_wp2_with fail
      (with_reducible refine Hnum.out.mono ?_)
      rintro e w3 ⟨rfl, rfl⟩
      clear Hnum
      go_wp2_with (at_builtin; refine wpList_append_one' rfl (.tmp 14) (.tmp 20) 60 rfl 3 (.int .i64 0) 8 Tryz.underlying60 infoI rfl _ j _ rfl Ho.out (.int .i64 (rnum x)) rfl 3 wr.heap.size rfl rfl (by omega) (by omega) ?_; intro v' w5 hown' hgr hat; have Hown' := Lib.hid hown'; have Hgr := Lib.hid hgr; have Hat := Lib.hid hat; clear hown' hgr hat)
      go_roundg (gk - 1)
      case measure => have := Hgk.out; omega
      case rel =>
        have := Hgk.out
        have hsz := Hs2.out
        refine ⟨j + 1, v', by omega, rfl, by go_num, by omega, Lib.hid ?_, Lib.hid ((Hb.out.alloc (by omega) _).grown Hgr.out (by simp; omega) (fun g hg => Hnw.out g hg)), Lib.hid fun i hi => ?_⟩
        · rw [List.take_add_one, Hx.out, Option.toList_some, List.map_append, List.map_append]
          exact Hown'.out
        · rcases Hat.out with e | e
          · exact Hnw.out i (e ▸ hi)
          · rw [e] at hi; injection hi with hi; omega
    · obtain rfl : ps.length = j := by omega
      have Hf := Lib.hid (show OwnAt wr 3 1 (.slice Av ps.length cv) ps.length ((ps.map rnum).map (Value.int .i64)) from by
        have h := Ho.out
        rw [List.take_length] at h
        exact h)
      obtain ⟨ii, hi1, hz1, hsz1, hby1⟩ := info_parts infoI
      have Hs2 := Lib.hid (show w2.heap.size ≤ wr.heap.size from Hb.out.size)
      have Hs1 := Lib.hid Hws.out.b.size
      have Hnews := Lib.hid (show ∀ (j : Nat) (u : Value), [Value.int .i64 0, Value.int .i64 0, Value.int .i64 0, Value.int .i64 0][j]? = some u → (wr.alloc (.cells #[.int .i64 0, .int .i64 0, .int .i64 0, .int .i64 0] 3)).cell? ((⟨wr.heap.size, 0, none⟩ : Addr).add j) = some u from fun j u hu => by
        rw [addr_add_zero, cell_of_row _ _ _ _ _ (0, 0) (heap_alloc_new wr _)]
        simpa using hu)
      go_wp2_with (at_builtin; refine wpList_append_at _ rfl (.tmp 22) (.tmp 23) 60 rfl 3 ii (.int .i64 0) 1 8 Tryz.underlying60 hi1 hz1 hsz1 hby1 rfl _ ps.length _ rfl (Hf.out.alloc _) ⟨wr.heap.size, 0, none⟩ 4 4 [.int .i64 0, .int .i64 0, .int .i64 0, .int .i64 0] rfl rfl Hnews.out (by simp [Value.oneCell']) (by simp only [maxLen]; omega) (by omega) ?_; intro v' w5 hown' hgr hat; have Hown' := Lib.hid hown'; have Hgr := Lib.hid hgr; have Hat := Lib.hid hat; clear hown' hgr hat)
      go_ret
      have hs1 := Hs1.out
      have hs2 := Hs2.out
      refine ⟨v', rfl, ?_, (Hws.out.b.trans (Hb.out.mono hs1)).trans (((Below.refl W.heap.size wr).alloc (by omega) _).grown Hgr.out (by simp; omega) (fun g hg => by have := Hnw.out g hg; omega)), fun i hi => ?_⟩
      · have h := Hown'.out
        have e : fieldsR t = ps.map rnum ++ [0, 0, 0, 0] := by rw [Hps.out]; rfl
        rw [e]
        simpa using h
      · rcases Hat.out with e | e
        · have := Hnw.out i (e ▸ hi); omega
        · rw [e] at hi; injection hi with hi; simp at hi; omega
end KT
end Go.Proofs.YtbiopedpceddeaaGreatDoor
end
