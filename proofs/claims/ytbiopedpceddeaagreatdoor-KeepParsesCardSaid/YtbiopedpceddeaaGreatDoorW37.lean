/- Merged: C4KFA, C4KFB. -/
import Derived.Test.YtbiopedpceddeaaGreatDoorW36
import Derived.Test.YtbiopedpceddeaaGreatDoorW30
import Derived.Test.YtbiopedpceddeaaGreatDoorW20
set_option linter.unusedVariables false
set_option linter.unusedSimpArgs false
section
namespace Go.Proofs.YtbiopedpceddeaaGreatDoor
open Go.RowKit Go.Maps Go.Lib
set_option linter.unusedVariables false
set_option linter.unusedSimpArgs false
namespace KT
theorem lineT_len {n : Int} {r : R.Rl} (h : (textW r).length ≤ 200) : (lineT n r).length ≤ 222 := by
  have h1 := itoa_len (n := sumT n (textW r)) (by have := sumT_range n (textW r); exact ⟨by omega, by omega⟩)
  unfold lineT
  simp only [List.length_append, List.length_cons, List.length_nil]
  omega
theorem storeFrom_len : ∀ (l : List R.Rl) (n : Int), (∀ r ∈ l, (textW r).length ≤ 200) → (storeFrom n l).length ≤ 222 * l.length := by
  intro l
  induction l with
  | nil => intro n _; simp [storeFrom]
  | cons r l ih =>
    intro n h
    have h1 := lineT_len (n := n) (h r (by simp))
    have h2 := ih (sumT n (textW r)) fun q hq => h q (List.mem_cons_of_mem _ hq)
    rw [storeFrom, List.length_append, List.length_cons]
    omega
theorem sums_snoc (n : Int) (l : List R.Rl) (r : R.Rl) : sums n (l ++ [r]) = sumT (sums n l) (textW r) := by simp [sums]
theorem storeFrom_snoc (l : List R.Rl) (r : R.Rl) (n : Int) : storeFrom n (l ++ [r]) = storeFrom n l ++ (itoa (sumT (sums n l) (textW r)) ++ 32 :: textW r ++ [10]) := by
  rw [storeFrom_app]
  simp [storeFrom, lineT]
theorem sums_rng (l : List R.Rl) : 0 ≤ sums 0 l ∧ sums 0 l < 1000003 := by
  have : ∀ (l : List R.Rl) (n : Int), 0 ≤ n → n < 1000003 → 0 ≤ sums n l ∧ sums n l < 1000003 := by
    intro l
    induction l with
    | nil => intro n h0 h1; exact ⟨h0, h1⟩
    | cons r l ih => intro n _ _; exact ih _ (sumT_range n (textW r)).1 (sumT_range n (textW r)).2
  exact this l 0 (by omega) (by omega)

set_option maxRecDepth 100000 in
set_option maxHeartbeats 4000000 in
theorem rstore_any {rs : List R.Rl} {A : Option Addr} {n c : Nat} {W : World} (hS : StAt 3 RlR W A n rs) (hw : ∀ r ∈ rs, Wrt r) (hs : ∀ r ∈ rs, (textW r).length ≤ 200) (hn : n ≤ 1000000) (hT : Tens W) :
    Calls Tryz.prog 84 #[.slice A n c] W fun e W' => e = .returned (.string ⟨(storeT rs).toArray⟩) ∧ Below W.heap.size W W' := by
  have HS := Lib.hid hS
  have Hw := Lib.hid hw
  have Hs := Lib.hid hs
  have HT := Lib.hid hT
  have Hn := Lib.hid hS.len
  clear hS hw hT hs
  go_enter Tryz.func84, Tryz.ntmps84
  go_wp2_with fail
  go_loopg [3, 4, 5] (n + 1) (fun gg s3 s4 s5 wr => ∃ j : Nat, j ≤ n ∧ s3 = .string ⟨(storeFrom 0 (rs.take j)).toArray⟩ ∧ s4 = .int .i64 (sums 0 (rs.take j)) ∧ s5 = .int .i64 (j : Int) ∧ gg + j = n + 1 ∧ Hid (Below W.heap.size W wr))
  case atStart => exact ⟨0, Nat.zero_le _, rfl, rfl, rfl, rfl, Lib.hid (Below.refl _ _)⟩
  case round =>
    obtain ⟨j, hj, rfl, rfl, rfl, hgk, Hb⟩ := hrel
    have Hgk := Lib.hid hgk
    clear hgk
    obtain ⟨s, hs⟩ : ∃ s, s = storeFrom 0 (rs.take j) := ⟨_, rfl⟩
    obtain ⟨m, hm⟩ : ∃ m, m = sums 0 (rs.take j) := ⟨_, rfl⟩
    have Hsl := Lib.hid (show s.length ≤ 222000000 from by
      have h := storeFrom_len (rs.take j) 0 fun q hq => Hs.out q (List.mem_of_mem_take hq)
      rw [List.length_take] at h
      rw [hs]
      omega)
    have Hse := Lib.hid hs
    have Hme := Lib.hid hm
    have Hmr := Lib.hid (show 0 ≤ m ∧ m < 1000003 from by rw [hm]; exact sums_rng _)
    rw [← hs, ← hm]
    clear hs hm
    by_cases hjn : j < n
    · obtain ⟨r, b, off, nl, cl, nr, cr, np, cp, AL, AR, AP, hx, hA, hb, c0, c1, c2, hR⟩ := rl_at (HS.out.below monoRl Hb.out) hjn
      subst hA
      have Hx := Lib.hid hx
      have hwr := Hw.out r (List.mem_of_getElem? hx)
      have h1 := hwr.nl
      have h2 := hwr.nr
      have h3 := hwr.np
      have HC := Lib.hid (rtext_any (cl := cl) (cr := cr) (cp := cp) hR (HT.out.below Hb.out) (by rw [← hR.sl.len]; exact h1) (by rw [← hR.sr.len]; exact h2) (by rw [← hR.sp.len]; exact h3) hwr.l hwr.q hwr.p)
      obtain ⟨t, ht⟩ : ∃ t, t = textW r := ⟨_, rfl⟩
      have htl : t.length ≤ 200 := by rw [ht]; exact Hs.out r (List.mem_of_getElem? hx)
      have Ht := Lib.hid ht
      rw [← ht] at HC
      obtain ⟨m', hm'⟩ : ∃ m', m' = sumT m t := ⟨_, rfl⟩
      have Hm' := Lib.hid hm'
      have Hmr' := Lib.hid (show 0 ≤ m' ∧ m' < 1000003 from by rw [hm']; exact sumT_range _ _)
      have HSm := Lib.hid (fun X => rSum_any (n := m) ⟨by have := Hmr.out; omega, by have := Hmr.out; omega⟩ (t := t) (by omega) (W := X))
      rw [← hm'] at HSm
      obtain ⟨i, hi⟩ : ∃ i, i = itoa m' := ⟨_, rfl⟩
      have hil : i.length ≤ 20 := by rw [hi]; exact itoa_len ⟨by have := Hmr'.out; omega, by have := Hmr'.out; omega⟩
      have HI := Lib.hid (fun X (h : Below W.heap.size W X) => kItoa_any (n := m') ⟨by have := Hmr'.out; omega, by have := Hmr'.out; omega⟩ (HT.out.below h))
      rw [← hi] at HI
      have Hi := Lib.hid hi
      obtain ⟨s1, hs1⟩ : ∃ z, z = s ++ i := ⟨_, rfl⟩
      obtain ⟨s2, hs2⟩ : ∃ z, z = s1 ++ [32] := ⟨_, rfl⟩
      obtain ⟨s3, hs3⟩ : ∃ z, z = s2 ++ t := ⟨_, rfl⟩
      obtain ⟨s4, hs4⟩ : ∃ z, z = s3 ++ [10] := ⟨_, rfl⟩
      have hsl := Hsl.out
      have l1 : s1.length ≤ 222000020 := by rw [hs1, List.length_append]; omega
      have l2 : s2.length ≤ 222000021 := by rw [hs2, List.length_append]; simp; omega
      have l3 : s3.length ≤ 222000221 := by rw [hs3, List.length_append]; omega
      have n1 : ¬ 9223372036854775807 < s.length + i.length := by omega
      have n2 : ¬ 9223372036854775807 < s1.length + 1 := by omega
      have n3 : ¬ 9223372036854775807 < s2.length + t.length := by omega
      have n4 : ¬ 9223372036854775807 < s3.length + 1 := by omega
      have m1 : (⟨s.toArray⟩ ++ ⟨i.toArray⟩ : ByteArray) = ⟨s1.toArray⟩ := by rw [hs1]; exact ByteArray.mk_append_mk s i
      have m2 : (⟨s1.toArray⟩ ++ ⟨#[32]⟩ : ByteArray) = ⟨s2.toArray⟩ := by rw [hs2]; exact ByteArray.mk_append_mk s1 [32]
      have m3 : (⟨s2.toArray⟩ ++ ⟨t.toArray⟩ : ByteArray) = ⟨s3.toArray⟩ := by rw [hs3]; exact ByteArray.mk_append_mk s2 t
      have m4 : (⟨s3.toArray⟩ ++ ⟨#[10]⟩ : ByteArray) = ⟨s4.toArray⟩ := by rw [hs4]; exact ByteArray.mk_append_mk s3 [10]
      have He := Lib.hid (show storeFrom 0 (rs.take (j + 1)) = s4 ∧ sums 0 (rs.take (j + 1)) = m' from by
        rw [List.take_add_one, hx]
        simp only [Option.toList_some]
        rw [storeFrom_snoc, sums_snoc, ← Hse.out, ← Hme.out, ← ht, ← hm', ← hi, hs4, hs3, hs2, hs1]
        exact ⟨by simp, rfl⟩)
      clear hx hb hR hwr h1 h2 h3 ht hm' hi hs1 hs2 hs3 hs4 hsl
      go_wp2_with fail
      (with_reducible refine HC.out.mono ?_)
      rintro e w2 ⟨rfl, hb2⟩
      have Hb2 := Lib.hid (Hb.out.trans (hb2.mono Hb.out.size))
      clear hb2 HC c0 c1 c2
      go_wp2_with fail
      (with_reducible refine (HSm.out _).mono ?_)
      rintro e w3 ⟨rfl, rfl⟩
      go_wp2_with fail
      (with_reducible refine (HI.out _ Hb2.out).mono ?_)
      rintro e w4 ⟨rfl, hb4⟩
      have Hb4 := Lib.hid (Hb2.out.trans (hb4.mono Hb2.out.size))
      clear hb4
      go_wp2_with fail
      go_roundg (gk - 1)
      case measure => have := Hgk.out; omega
      case rel =>
        have := Hgk.out
        obtain ⟨e1, e2⟩ := He.out
        exact ⟨j + 1, by omega, by rw [e1], by rw [e2], by go_num, by omega, Hb4⟩
    · obtain rfl : n = j := by omega
      have Hh := Lib.hid (show storeT rs = s from by
        rw [Hse.out, List.take_of_length_le (by rw [Hn.out]; exact Nat.le_refl _)]
        rfl)
      go_wp2
      go_ret
      exact ⟨by rw [Hh.out]; rfl, Hb.out⟩

/-- equal texts -/
def sameT (l m : List R.Rl) : Bool := decide (l.map textW = m.map textW)
theorem sameT_refl (l : List R.Rl) : sameT l l = true := by simp [sameT]

set_option maxRecDepth 100000 in
set_option maxHeartbeats 4000000 in
theorem rsame_any {l k : List R.Rl} {A B : Option Addr} {n m c d : Nat} {W : World} (hS : StAt 3 RlR W A n l) (hw : ∀ r ∈ l, Wrt r) (hK : StAt 3 RlR W B m k) (hz : ∀ r ∈ k, Wrt r) (hT : Tens W) :
    Calls Tryz.prog 27 #[.slice A n c, .slice B m d] W fun e W' => e = .returned (.bool (sameT l k)) ∧ Below W.heap.size W W' := by
  have HS := Lib.hid hS
  have Hw := Lib.hid hw
  have HK := Lib.hid hK
  have Hz := Lib.hid hz
  have HT := Lib.hid hT
  have Hn := Lib.hid hS.len
  have Hm := Lib.hid hK.len
  have hnn := hS.le
  have hmm := hK.le
  clear hS hw hT hK hz
  go_enter Tryz.func27, Tryz.ntmps27
  by_cases hnm : n = m
  rotate_left
  · have Hh := Lib.hid (show sameT l k = false from by
      unfold sameT
      refine decide_eq_false fun e => hnm ?_
      have := congrArg List.length e
      rw [List.length_map, List.length_map, Hn.out, Hm.out] at this
      exact this)
    have q : ((n : Int) == (m : Int)) = false := by simp; omega
    go_wp2_with fail
    go_ret
    exact ⟨by rw [Hh.out]; rfl, Below.refl _ _⟩
  subst hnm
  go_wp2_with fail
  go_loopg [5] (n + 1) (fun gg s5 wr => ∃ j : Nat, j ≤ n ∧ s5 = .int .i64 (j : Int) ∧ gg + j = n + 1 ∧ Hid ((l.take j).map textW = (k.take j).map textW) ∧ Hid (Below W.heap.size W wr))
  case atStart => exact ⟨0, Nat.zero_le _, rfl, rfl, Lib.hid rfl, Lib.hid (Below.refl _ _)⟩
  case round =>
    obtain ⟨j, hj, rfl, hgk, Ha, Hb⟩ := hrel
    have Hgk := Lib.hid hgk
    clear hgk
    by_cases hjn : j < n
    · obtain ⟨r, b, off, nl, cl, nr, cr, np, cp, AL, AR, AP, hx, hA, hb, c0, c1, c2, hR⟩ := rl_at (HS.out.below monoRl Hb.out) hjn
      subst hA
      obtain ⟨q, b', off', ml, dl, mr, dr, mp, dp, BL, BR, BP, hy, hA', hb', d0, d1, d2, hQ⟩ := rl_at (HK.out.below monoRl Hb.out) hjn
      subst hA'
      have Hx := Lib.hid hx
      have Hy := Lib.hid hy
      have hwr := Hw.out r (List.mem_of_getElem? hx)
      have hwq := Hz.out q (List.mem_of_getElem? hy)
      have h1 := hwr.nl
      have h2 := hwr.nr
      have h3 := hwr.np
      have g1 := hwq.nl
      have g2 := hwq.nr
      have g3 := hwq.np
      rw [hR.sl.len] at h1
      rw [hR.sr.len] at h2
      rw [hR.sp.len] at h3
      rw [hQ.sl.len] at g1
      rw [hQ.sr.len] at g2
      rw [hQ.sp.len] at g3
      obtain ⟨ov⟩ := ov_ex wr
      have HC := Lib.hid (fun u => calls_over (ov := ov) (rtext_any (cl := cl) (cr := cr) (cp := cp) (hR.below (ov.below u)) ((HT.out.below Hb.out).below (ov.below u)) h1 h2 h3 hwr.l hwr.q hwr.p))
      have HD := Lib.hid (fun u => calls_over (ov := ov) (rtext_any (cl := dl) (cr := dr) (cp := dp) (hQ.below (ov.below u)) ((HT.out.below Hb.out).below (ov.below u)) g1 g2 g3 hwq.l hwq.q hwq.p))
      have o0 := ov.cell c0
      have o1 := ov.cell c1
      have o2 := ov.cell c2
      have p0 := ov.cell d0
      have p1 := ov.cell d1
      have p2 := ov.cell d2
      obtain ⟨t, ht⟩ : ∃ t, t = textW r := ⟨_, rfl⟩
      obtain ⟨z, hz⟩ : ∃ t, t = textW q := ⟨_, rfl⟩
      have Ht := Lib.hid ht
      have Hzt := Lib.hid hz
      rw [← ht] at HC
      rw [← hz] at HD
      clear hx hb c0 c1 c2 d0 d1 d2 hR ht hz hy hb' hQ hwr hwq h1 h2 h3 g1 g2 g3
      go_upto_region 6 with (fail)
      refine wp_region_ovq ov (by kernel_rfl) (by kernel_rfl) ?_
      repeat (go_big_quiet_step ((first | (go_at_call 74; with_reducible exact HC.out _) | (go_at_call 74; with_reducible exact HD.out _))))
      refine wpQuiet_nil ?_
      rintro _ ⟨u, rfl⟩
      have Hb2 := Lib.hid (Hb.out.trans ((ov.below u).mono Hb.out.size))
      clear o0 o1 o2 p0 p1 p2 HC HD
      generalize ov.f u = w2 at *
      clear ov
      by_cases he : t = z
      · have He := Lib.hid he
        have q1 : (t == z) = true := by simpa using he
        have q2 : (!(t == z)) = false := by rw [q1]; rfl
        rw [q2]
        clear he q1 q2
        go_wp2
        go_roundg (gk - 1)
        case measure => have := Hgk.out; omega
        case rel =>
          have := Hgk.out
          refine ⟨j + 1, by omega, by go_num, by omega, Lib.hid ?_, Hb2⟩
          rw [List.take_add_one, List.take_add_one, Hx.out, Hy.out, List.map_append, List.map_append, Ha.out]
          simp only [Option.toList_some, List.map_cons, List.map_nil]
          rw [← Ht.out, ← Hzt.out, He.out]
      · have q1 : (t == z) = false := by simpa using he
        have Hh := Lib.hid (show sameT l k = false from by
          unfold sameT
          refine decide_eq_false fun e => he ?_
          have h1 := congrArg (·[j]?) e
          simp only [List.getElem?_map, Hx.out, Hy.out, Option.map_some] at h1
          injection h1 with h1
          rw [Ht.out, Hzt.out, h1])
        have q2 : (!(t == z)) = true := by rw [q1]; rfl
        rw [q2]
        clear he q1 q2
        go_wp2
        go_ret
        exact ⟨by rw [Hh.out]; rfl, Hb2.out⟩
    · obtain rfl : n = j := by omega
      have Hh := Lib.hid (show sameT l k = true from by
        unfold sameT
        refine decide_eq_true ?_
        have h := Ha.out
        rw [List.take_of_length_le (by rw [Hn.out]; exact Nat.le_refl _), List.take_of_length_le (by rw [Hm.out]; exact Nat.le_refl _)] at h
        exact h)
      go_wp2
      go_ret
      exact ⟨by rw [Hh.out]; rfl, Hb.out⟩
end KT
end Go.Proofs.YtbiopedpceddeaaGreatDoor
end
section
namespace Go.Proofs.YtbiopedpceddeaaGreatDoor
open Go.RowKit Go.Maps Go.Lib
set_option linter.unusedVariables false
set_option linter.unusedSimpArgs false
namespace KT
theorem builder_below {T e : TypeId} {B b : Nat} {bs : List Value} {w w' : World} (h : Lib.IsBuilderF T e B b bs w) (hb : Below w.heap.size w w') : Lib.IsBuilderF T e B b bs w' := by
  have key : ∀ p, Lib.BuilderAtF T e B b p bs w → Lib.BuilderAtF T e B b p bs w' := by
    rintro p ⟨h1, v, h2, h3, h4⟩
    refine ⟨h1, v, (hb.block _ (Array.getElem?_eq_some_iff.1 h2).1).trans h2, ⟨h3.1, ?_⟩, h4⟩
    rcases h3.2 with h | ⟨g, cap, cur, fz, e1, e2, e3, e4⟩
    · exact .inl h
    · exact .inr ⟨g, cap, cur, fz, e1, e2, (hb.block _ (Array.getElem?_eq_some_iff.1 e3).1).trans e3, e4⟩
  rcases h with h | h
  · exact .inl (key _ h)
  · exact .inr (key _ h)
theorem builder_new {B : Nat} {w : World} (hB : B ≤ w.heap.size) : Lib.IsBuilderF 197 5 B w.heap.size (Lib.byteCells []) (w.alloc (.cells #[.pointer none, .slice none 0 0] 197)) :=
  .inl ⟨hB, .slice none 0 0, heap_alloc_new w _, ⟨rfl, .inl ⟨rfl, rfl⟩⟩, by simp [Value.ownBlock]⟩

/-- keys of a map -/
def ekS (k : List UInt8) : Value := .string ⟨k.toArray⟩
theorem ekS_inj : ∀ a b, ekS a = ekS b → a = b := fun a b h => by
  unfold ekS at h
  injection h with h
  exact bytes_eq.1 h
theorem strKeyed : Keyed Tryz.prog 9 := string_keyed Tryz.underlying9
theorem keyOf_str {k : List UInt8} (h : k.length ≤ 1000000000) : keyOf Tryz.prog 9 (ekS k) = some (.string k) := by
  have hsz : (⟨k.toArray⟩ : ByteArray).size = k.length := by show k.toArray.size = _; simp
  have := WideMaps.keyOf_string_mk (P := Tryz.prog) Tryz.underlying9 (s := ⟨k.toArray⟩) (by rw [hsz]; simp only [maxLen]; omega)
  simpa [ekS] using this
/-- the entries of a map of keys -/
def entS (s : List (List UInt8)) : List (List UInt8 × Int) := s.zipIdx.map fun p => (p.1, (p.2 : Int))
theorem entS_keys (s : List (List UInt8)) : (entS s).map Prod.fst = s := by
  unfold entS
  rw [List.map_map]
  exact List.zipIdx_map_fst 0 s
theorem entS_get {s : List (List UInt8)} (hd : s.Nodup) (n : List UInt8) : AL.get (entS s) n = if n ∈ s then some ((s.idxOf n : Nat) : Int) else none := by
  split
  · rename_i h
    have hk := List.idxOf_lt_length_iff.2 h
    refine AL.get_some (j := s.idxOf n) (by rw [entS_keys]; exact hd) ?_
    unfold entS
    rw [List.getElem?_map, List.getElem?_zipIdx, List.getElem?_eq_getElem hk]
    simp
  · rename_i h
    refine AL.get_none fun p hp e => h ?_
    rw [← entS_keys s]
    exact List.mem_map.2 ⟨p, hp, e⟩
theorem entS_put {s : List (List UInt8)} {n : List UInt8} (h : n ∉ s) : AL.put (entS s) n (s.length : Int) = entS (s ++ [n]) := by
  rw [AL.put_none (fun p hp e => h (by rw [← entS_keys s]; exact List.mem_map.2 ⟨p, hp, e⟩))]
  unfold entS
  rw [List.zipIdx_append]
  simp

/-- elements that are numbers -/
def IntK (_ : World) (_ : List UInt8) (u : Value) (n : Int) : Prop := u = .int .i64 n
/-- what may turn of a store -/
def Nst (g mb : Nat) (v : Value) (i : Nat) : Prop := i = g ∨ i = mb ∨ v.ownBlock = some i
/-- a store in block g: its rules in v, their keys in the map mb; whatever lies below B may turn -/
structure StoreAt (B : Nat) (w : World) (g : Nat) (v : Value) (mb : Nat) (rs : List R.Rl) (ks : List (List UInt8)) : Prop where
  row : w.heap[g]? = some (.cells #[v, .map (some mb)] 128 (0, 0))
  own : OwnL (fun i => i < B ∨ i = g ∨ i = mb) w v rs
  map_ : MapAt Tryz.prog 9 ekS IntK w mb (entS ks)
  nd : ks.Nodup
  len : ks.length = rs.length
  key : ∀ (i : Nat) (r : R.Rl) (k : List UInt8), rs[i]? = some r → ks[i]? = some k → IsKey r k
  val : ∀ r ∈ rs, R.rvalid r = 0
section
variable {B : Nat} {w w' : World} {g mb : Nat} {v : Value} {rs : List R.Rl} {ks : List (List UInt8)}
theorem StoreAt.lt (h : StoreAt B w g v mb rs ks) : g < w.heap.size := (Array.getElem?_eq_some_iff.1 h.row).1
theorem StoreAt.below (h : StoreAt B w g v mb rs ks) (hb : Below w.heap.size w w') : StoreAt B w' g v mb rs ks :=
  ⟨(hb.block _ h.lt).trans h.row, h.own.below hb, h.map_.keep (hb.block _ h.map_.lt) fun _ _ _ h => h, h.nd, h.len, h.key, h.val⟩
theorem StoreAt.wrt (h : StoreAt B w g v mb rs ks) : ∀ r ∈ rs, Wrt r := fun r hr => by
  obtain ⟨k, hk⟩ := List.mem_iff_getElem?.1 hr
  obtain ⟨cells, _, h2⟩ := h.own
  exact wrt_of_valid (h2 k r hk).now (h.val r hr)
/-- a key is there exactly if a rule with it is -/
theorem StoreAt.has (h : StoreAt B w g v mb rs ks) {r : R.Rl} {k : List UInt8} (hv : R.rvalid r = 0) (hk : IsKey r k) : decide (k ∈ ks) = hasT rs r := by
  rw [Bool.eq_iff_iff, decide_eq_true_iff]
  unfold hasT
  rw [List.any_eq_true]
  constructor
  · intro hm
    obtain ⟨i, hi⟩ := List.mem_iff_getElem?.1 hm
    have hlt := (List.getElem?_eq_some_iff.1 hi).1
    rw [h.len] at hlt
    have hr := List.getElem?_eq_getElem hlt
    refine ⟨rs[i], List.getElem_mem hlt, ?_⟩
    exact (IsKey.iff (R.rok_of (h.val _ (List.getElem_mem hlt))) (R.rok_of hv) (h.key i _ _ hr hi) hk).1 rfl
  · rintro ⟨q, hq, e⟩
    obtain ⟨i, hi⟩ := List.mem_iff_getElem?.1 hq
    have hlt := (List.getElem?_eq_some_iff.1 hi).1
    rw [← h.len] at hlt
    have hki := List.getElem?_eq_getElem hlt
    have := (IsKey.iff (R.rok_of (h.val _ hq)) (R.rok_of hv) (h.key i _ _ hi hki) hk).2 e
    rw [← this]
    exact List.getElem_mem hlt
end

set_option maxRecDepth 100000 in
set_option maxHeartbeats 4000000 in
theorem newStore_any {B : Nat} {W : World} : Calls Tryz.prog 79 #[] W fun e w' => ∃ g mb, e = .returned (.pointer (some ⟨g, 0, none⟩)) ∧ StoreAt B w' g (.slice none 0 0) mb [] [] ∧ Below W.heap.size W w' ∧ W.heap.size ≤ g ∧ W.heap.size ≤ mb := by
  have hmk : ∀ w : World, (Instr.makeMap 126 none).run Tryz.prog w = .ok (.map (some w.heap.size)) (w.alloc (.map #[] 0)) := fun w => by simp [Instr.makeMap]
  go_enter Tryz.func79, Tryz.ntmps79
  go_wp2
  go_ret
  refine ⟨W.heap.size + 1, W.heap.size, by first | rfl | simp, ⟨?_, OwnL.nil_ _ _, ?_, .nil, rfl, fun i r k h => by simp at h, fun r h => by simp at h⟩, ((Below.refl _ _).alloc (Nat.le_refl _) _).alloc (by simp) _, by omega, Nat.le_refl _⟩
  · exact new_two W _ _
  · refine (MapAt.made (R := IntK) W).keep (R' := IntK) ?_ fun _ _ _ h => h
    exact (row_alloc (heap_alloc_new W _) _).trans (heap_alloc_new W _).symm

set_option maxRecDepth 100000 in
set_option maxHeartbeats 4000000 in
theorem text_any {rs : List R.Rl} {A : Option Addr} {n c g : Nat} {m : Value} {W : World} (hg : W.heap[g]? = some (.cells #[.slice A n c, m] 128 (0, 0))) (hS : StAt 3 RlR W A n rs) (hw : ∀ r ∈ rs, Wrt r) (hs : ∀ r ∈ rs, (textW r).length ≤ 200) (hn : n ≤ 1000000) (hT : Tens W) :
    Calls Tryz.prog 81 #[.pointer (some ⟨g, 0, none⟩)] W fun e W' => e = .returned (.string ⟨(storeT rs).toArray⟩) ∧ Below W.heap.size W W' := by
  obtain ⟨W1, hW1⟩ : ∃ W1, W1 = W.alloc (.cells #[.pointer none, .slice none 0 0] 197) := ⟨_, rfl⟩
  have hb1 : Below W.heap.size W W1 := by rw [hW1]; exact (Below.refl _ _).alloc (Nat.le_refl _) _
  have HBu := Lib.hid (show Lib.IsBuilderF 197 5 W.heap.size W.heap.size (Lib.byteCells []) W1 from by rw [hW1]; exact builder_new (Nat.le_refl _))
  have HS := Lib.hid hS
  have Hw := Lib.hid hw
  have Hs := Lib.hid hs
  have HT := Lib.hid hT
  have Hn := Lib.hid hS.len
  have HB1 := Lib.hid hb1
  have HW1 := Lib.hid hW1
  have g0 : W1.cell? ⟨g, 0, none⟩ = some (.slice A n c) := by
    rw [cell_of_row _ _ _ _ _ (0, 0) ((hb1.block _ (Array.getElem?_eq_some_iff.1 hg).1).trans hg)]
    rfl
  clear hS hw hT hs hb1 hW1 hg
  go_enter Tryz.func81, Tryz.ntmps81
  go_upto_region 2 with (fail)
  rw [← HW1.out]
  go_wp2_with fail
  clear g0
  go_loopg [4, 13] (n + 1) (fun gg s4 s13 wr => ∃ j : Nat, j ≤ n ∧ s4 = .int .i64 (sums 0 (rs.take j)) ∧ s13 = .int .i64 (j : Int) ∧ gg + j = n + 1 ∧ Hid (Lib.IsBuilderF 197 5 W.heap.size W.heap.size (Lib.byteCells (storeFrom 0 (rs.take j))) wr) ∧ Hid (Below W.heap.size W wr))
  case atStart => exact ⟨0, Nat.zero_le _, rfl, rfl, rfl, HBu, HB1⟩
  case round =>
    obtain ⟨j, hj, rfl, rfl, hgk, HBj, Hb⟩ := hrel
    have Hgk := Lib.hid hgk
    clear hgk
    obtain ⟨s, hs⟩ : ∃ s, s = storeFrom 0 (rs.take j) := ⟨_, rfl⟩
    obtain ⟨m, hm⟩ : ∃ m, m = sums 0 (rs.take j) := ⟨_, rfl⟩
    have Hsl := Lib.hid (show s.length ≤ 222000000 from by
      have h := storeFrom_len (rs.take j) 0 fun q hq => Hs.out q (List.mem_of_mem_take hq)
      rw [List.length_take] at h
      rw [hs]
      omega)
    have Hse := Lib.hid hs
    have Hme := Lib.hid hm
    have Hmr := Lib.hid (show 0 ≤ m ∧ m < 1000003 from by rw [hm]; exact sums_rng _)
    rw [← hm]
    rw [← hs] at HBj
    clear hs hm
    by_cases hjn : j < n
    · obtain ⟨r, b, off, nl, cl, nr, cr, np, cp, AL, AR, AP, hx, hA, hb, c0, c1, c2, hR⟩ := rl_at (HS.out.below monoRl Hb.out) hjn
      subst hA
      have Hx := Lib.hid hx
      have hwr := Hw.out r (List.mem_of_getElem? hx)
      have h1 := hwr.nl
      have h2 := hwr.nr
      have h3 := hwr.np
      obtain ⟨wa, hwa⟩ : ∃ wa, wa = wr.alloc (.cells #[.slice AL nl cl, .slice AR nr cr, .slice AP np cp] 33) := ⟨_, rfl⟩
      have hba : Below wr.heap.size wr wa := by rw [hwa]; exact (Below.refl _ _).alloc (Nat.le_refl _) _
      have hrow : wa.heap[wr.heap.size]? = some (.cells #[.slice AL nl cl, .slice AR nr cr, .slice AP np cp] 33 (0, 0)) := by rw [hwa]; exact heap_alloc_new wr _
      have Hba := Lib.hid (Hb.out.trans (hba.mono Hb.out.size))
      have HBa := Lib.hid (builder_below HBj.out hba)
      have HC := Lib.hid (written_any (cl := cl) (cr := cr) (cp := cp) (hR.below hba) (HT.out.below Hba.out) (by rw [← hR.sl.len]; exact h1) (by rw [← hR.sr.len]; exact h2) (by rw [← hR.sp.len]; exact h3) hwr.l hwr.q hwr.p)
      obtain ⟨t, ht⟩ : ∃ t, t = textW r := ⟨_, rfl⟩
      have htl : t.length ≤ 200 := by rw [ht]; exact Hs.out r (List.mem_of_getElem? hx)
      have Ht := Lib.hid ht
      rw [← ht] at HC
      obtain ⟨m', hm'⟩ : ∃ m', m' = sumT m t := ⟨_, rfl⟩
      have Hm' := Lib.hid hm'
      have Hmr' := Lib.hid (show 0 ≤ m' ∧ m' < 1000003 from by rw [hm']; exact sumT_range _ _)
      have HSm := Lib.hid (fun X => Sum_any (n := m) ⟨by have := Hmr.out; omega, by have := Hmr.out; omega⟩ (t := t) (by omega) (W := X))
      rw [← hm'] at HSm
      obtain ⟨i, hi⟩ : ∃ i, i = itoa m' := ⟨_, rfl⟩
      have hil : i.length ≤ 20 := by rw [hi]; exact itoa_len ⟨by have := Hmr'.out; omega, by have := Hmr'.out; omega⟩
      have HI := Lib.hid (fun X (h : Below W.heap.size W X) => kItoa_any (n := m') ⟨by have := Hmr'.out; omega, by have := Hmr'.out; omega⟩ (HT.out.below h))
      rw [← hi] at HI
      have Hi := Lib.hid hi
      obtain ⟨s2, hs2⟩ : ∃ z, z = i ++ [32] := ⟨_, rfl⟩
      obtain ⟨s3, hs3⟩ : ∃ z, z = s2 ++ t := ⟨_, rfl⟩
      obtain ⟨s4, hs4⟩ : ∃ z, z = s3 ++ [10] := ⟨_, rfl⟩
      have l2 : s2.length ≤ 21 := by rw [hs2, List.length_append]; simp; omega
      have l3 : s3.length ≤ 221 := by rw [hs3, List.length_append]; omega
      have l4 : s4.length ≤ 222 := by rw [hs4, List.length_append]; simp; omega
      have n2 : ¬ 9223372036854775807 < i.length + 1 := by omega
      have n3 : ¬ 9223372036854775807 < s2.length + t.length := by omega
      have n4 : ¬ 9223372036854775807 < s3.length + 1 := by omega
      have m2 : (⟨i.toArray⟩ ++ ⟨#[32]⟩ : ByteArray) = ⟨s2.toArray⟩ := by rw [hs2]; exact ByteArray.mk_append_mk i [32]
      have m3 : (⟨s2.toArray⟩ ++ ⟨t.toArray⟩ : ByteArray) = ⟨s3.toArray⟩ := by rw [hs3]; exact ByteArray.mk_append_mk s2 t
      have m4 : (⟨s3.toArray⟩ ++ ⟨#[10]⟩ : ByteArray) = ⟨s4.toArray⟩ := by rw [hs4]; exact ByteArray.mk_append_mk s3 [10]
      have He := Lib.hid (show storeFrom 0 (rs.take (j + 1)) = s ++ s4 ∧ sums 0 (rs.take (j + 1)) = m' from by
        rw [List.take_add_one, hx]
        simp only [Option.toList_some]
        rw [storeFrom_snoc, sums_snoc, ← Hse.out, ← Hme.out, ← ht, ← hm', ← hi, hs4, hs3, hs2]
        exact ⟨by simp, rfl⟩)
      have Hl4 := Lib.hid l4
      obtain ⟨r0, r1, r2, _⟩ := rl_cells hrow
      clear hx hb hR hwr h1 h2 h3 ht hm' hi hs2 hs3 hs4 hba hrow
      go_upto_region 6 with (fail)
      rw [← hwa]
      clear hwa c0 c1 c2
      go_wp2_with fail
      (with_reducible refine HC.out.mono ?_)
      rintro e w2 ⟨rfl, hb2⟩
      have Hb2 := Lib.hid (Hba.out.trans (hb2.mono Hba.out.size))
      have HB2 := Lib.hid (builder_below HBa.out hb2)
      clear hb2 HC r0 r1 r2
      go_wp2_with fail
      (with_reducible refine (HSm.out _).mono ?_)
      rintro e w3 ⟨rfl, hb3⟩
      have Hb3 := Lib.hid (Hb2.out.trans (hb3.mono Hb2.out.size))
      have HB3 := Lib.hid (builder_below HB2.out hb3)
      clear hb3
      go_wp2_with fail
      (with_reducible refine (HI.out _ Hb3.out).mono ?_)
      rintro e w4 ⟨rfl, hb4⟩
      have Hb4 := Lib.hid (Hb3.out.trans (hb4.mono Hb3.out.size))
      have HB4 := Lib.hid (builder_below HB3.out hb4)
      have Hsz := Lib.hid (show (⟨s4.toArray⟩ : ByteArray).size = s4.length from by show s4.toArray.size = _; simp)
      have HWr := Lib.hid (Tryz.Builder_WriteString_k W.heap.size W.heap.size (Lib.byteCells s) ⟨s4.toArray⟩ w4 HB4.out (by rw [Lib.byteCells_length, Hsz.out]; have := Hsl.out; have := Hl4.out; omega) Hb4.out.size)
      clear hb4
      go_wp2_with fail
      (refine HWr.out.mono ?_)
      rintro e w5 ⟨rfl, hbd, hb5, _⟩
      have Hb5 := Lib.hid (Hb4.out.trans hb5)
      have HB5 := Lib.hid (show Lib.IsBuilderF 197 5 W.heap.size W.heap.size (Lib.byteCells (s ++ s4)) w5 from .inr (by rw [Lib.byteCells_append]; exact hbd))
      clear hbd hb5 HWr
      go_wp2_with fail
      go_roundg (gk - 1)
      case measure => have := Hgk.out; omega
      case rel =>
        have := Hgk.out
        obtain ⟨e1, e2⟩ := He.out
        exact ⟨j + 1, by omega, by rw [e2], by go_num, by omega, Lib.hid (by rw [e1]; exact HB5.out), Hb5⟩
    · obtain rfl : n = j := by omega
      have Hh := Lib.hid (show storeT rs = s from by
        rw [Hse.out, List.take_of_length_le (by rw [Hn.out]; exact Nat.le_refl _)]
        rfl)
      have HSt := Lib.hid (Tryz.Builder_String_any_k W.heap.size W.heap.size s wr HBj.out Hb.out.size)
      go_wp2_with fail
      (refine HSt.out.mono ?_)
      rintro e w5 ⟨rfl, _, hb5, _⟩
      have Hb5 := Lib.hid (Hb.out.trans hb5)
      clear hb5 HSt
      go_wp2
      go_ret
      exact ⟨by rw [Hh.out]; rfl, Hb5.out⟩
end KT
end Go.Proofs.YtbiopedpceddeaaGreatDoor
end
