/- Part. -/
import Derived.Test.YtbiopedpceddeaaGreatDoorQz20
import Derived.Test.YtbiopedpceddeaaGreatDoorQz22
set_option linter.unusedVariables false
set_option linter.unusedSimpArgs false
set_option maxRecDepth 100000
set_option maxHeartbeats 16000000
namespace Go.Proofs.YtbiopedpceddeaaGreatDoor
section
namespace KT
open Go.Lib
theorem cut_at {t : List UInt8} {f i : Nat} {b : UInt8} (hf : f ≤ i) (hb : t[i]? = some b) : t.drop f = (t.drop f).take (i - f) ++ b :: t.drop (i + 1) := by
 have hi := (List.getElem?_eq_some_iff.1 hb).1
 have h1 : (t.drop f).drop (i - f) = b :: t.drop (i + 1) := by
  rw [List.drop_drop, show f + (i - f) = i by omega, List.drop_eq_getElem_cons hi]
  rw [(List.getElem?_eq_some_iff.1 hb).2]
 rw [← h1, List.take_append_drop]
theorem scan_line {s : List UInt8} {f i g : Nat} (hf : f ≤ i) (hi : s[i]? = some 10) (hn : (10 : UInt8) ∉ (s.drop f).take (i - f)) {line : List UInt8} (hl : line = (s.drop f).take (i - f)) (hg : line[g]? = some 32) (hm : (32 : UInt8) ∉ line.take g) :
 lineOf (s.drop f) = some (line.take g, line.drop (g + 1), s.drop (i + 1)) := by
 have e1 := cut_at hf hi
 rw [← hl] at e1 hn
 have e2 : line = line.take g ++ 32 :: line.drop (g + 1) := by
  have := cut_at (Nat.zero_le g) hg
  simpa using this
 refine lineOf_some.2 ⟨?_, fun h => hn (List.mem_of_mem_take h), fun h => hn (List.mem_of_mem_drop h), hm⟩
 rw [e1]
 conv => lhs; rw [e2]
theorem lineOf_no10 {s : List UInt8} (h : (10 : UInt8) ∉ s) : lineOf s = none := by
 unfold lineOf
 rw [cut_not 10 s h]
 simp
theorem lineOf_no32 {s : List UInt8} {f i : Nat} (hf : f ≤ i) (hi : s[i]? = some 10) (hn : (10 : UInt8) ∉ (s.drop f).take (i - f)) (hm : (32 : UInt8) ∉ (s.drop f).take (i - f)) : lineOf (s.drop f) = none := by
 have e1 := cut_at hf hi
 unfold lineOf
 rw [e1, cut_app 10 _ _ hn, cut_not 32 _ hm]
 simp
end KT
end
section
namespace KT
def badT : List R.Rl → Int
 | [] => 0
 | r :: l => if R.rvalid r ≠ 0 then R.rvalid r else badT l
def smallT (l : List R.Rl) : Bool := decide (l.length ≤ 40) && l.all fun r => decide ((textW r).length ≤ 200)
noncomputable def hasT (m : List R.Rl) (r : R.Rl) : Bool := m.any fun q => sm q r
noncomputable def freeT : List R.Rl → List R.Rl → Bool
 | _, [] => true
 | acc, r :: l => !hasT acc r && freeT (acc ++ [r]) l
noncomputable def writeT (l : List R.Rl) : List UInt8 × Int := if badT l ≠ 0 then ([], badT l) else if smallT l = false then ([], 3) else if freeT [] l = false then ([], 7) else (storeT l, 0)
noncomputable def hasA (m : List R.Rl) (z : List UInt8) (r : R.Rl) : Bool × Int := if R.rvalid r ≠ 0 then (false, R.rvalid r) else if z ≠ [] then (false, 10) else (hasT m r, 0)
noncomputable def addA (s : List UInt8) (m : List R.Rl) (z : List UInt8) (r : R.Rl) : List UInt8 × Bool × Int :=
 if R.rvalid r ≠ 0 then ([], false, R.rvalid r) else if z ≠ [] then ([], false, 10) else if hasT m r = true then (s, false, 0) else if smallT (m ++ [r]) = false then ([], false, 3) else (storeT (m ++ [r]), true, 0)
noncomputable def mergeA (m : List R.Rl) (z : List UInt8) (m' : List R.Rl) (z' : List UInt8) : List UInt8 × Int :=
 if z ≠ [] then ([], 10) else if z' ≠ [] then ([], 10) else if 40 < (mergeT sm m m').length then ([], 3) else (storeT (mergeT sm m m'), 0)
theorem badT_iff : ∀ l : List R.Rl, badT l = 0 ↔ ∀ r ∈ l, R.rvalid r = 0 := by
 intro l
 induction l with
 | nil => simp [badT]
 | cons r l ih =>
  rw [badT]
  split
  · rename_i h
    exact ⟨fun e => absurd e h, fun e => e r (by simp)⟩
  · rename_i h
    rw [ih]
    simp only [List.mem_cons, forall_eq_or_imp]
    exact ⟨fun e => ⟨by omega, e⟩, fun e => e.2⟩
theorem smallT_iff (l : List R.Rl) : smallT l = true ↔ l.length ≤ 40 ∧ ∀ r ∈ l, (textW r).length ≤ 200 := by simp [smallT]
theorem freeT_iff : ∀ (l acc : List R.Rl), acc.Pairwise (fun q r => sm q r = false) → (freeT acc l = true ↔ (acc ++ l).Pairwise fun q r => sm q r = false) := by
 intro l
 induction l with
 | nil => intro acc h; simp [freeT, h]
 | cons r l ih =>
  intro acc h
  rw [freeT, Bool.and_eq_true]
  have e : acc ++ r :: l = (acc ++ [r]) ++ l := by simp
  constructor
  · rintro ⟨h1, h2⟩
    have h3 : (acc ++ [r]).Pairwise fun q r => sm q r = false := by
     rw [List.pairwise_append]
     refine ⟨h, List.pairwise_singleton _ _, fun q hq b hb => ?_⟩
     rw [List.mem_singleton] at hb
     subst hb
     unfold hasT at h1
     simp only [Bool.not_eq_true', List.any_eq_false] at h1
     simpa using h1 q hq
    rw [e]
    exact (ih _ h3).1 h2
  · intro h2
    rw [e] at h2
    have h3 := (List.pairwise_append.1 h2).1
    refine ⟨?_, (ih _ h3).2 h2⟩
    unfold hasT
    simp only [Bool.not_eq_true', List.any_eq_false]
    intro q hq
    have := (List.pairwise_append.1 h3).2.2 q hq r (by simp)
    simp [this]
theorem writeT_good {l : List R.Rl} (h : Good sm l) : writeT l = (storeT l, 0) := by
 unfold writeT
 rw [(badT_iff l).2 h.valid, if_neg (by simp), (smallT_iff l).2 ⟨h.len, h.short⟩, if_neg (by simp), (freeT_iff l [] .nil).2 (by simpa using h.apart), if_neg (by simp)]
theorem writeT_ok {l : List R.Rl} (hs : ∀ r ∈ l, R.rvalid r = 0 → RlS r) (h : (writeT l).2 = 0) : Good sm l ∧ (writeT l).1 = storeT l := by
 unfold writeT at h ⊢
 split at h
 · rename_i hb; exact absurd h hb
 · rename_i hb
   split at h
   · cases h
   · rename_i hc
     split at h
     · cases h
     · rename_i hd
       rw [if_neg hb, if_neg hc, if_neg hd]
       have h1 := (badT_iff l).1 (by omega)
       obtain ⟨h2, h3⟩ := (smallT_iff l).1 (by simpa using hc)
       have h4 := (freeT_iff l [] .nil).1 (by simpa using hd)
       exact ⟨⟨h1, fun r hr => hs r hr (h1 r hr), by simpa using h4, h2, h3⟩, rfl⟩
theorem add_law {s : List UInt8} {m : List R.Rl} {z : List UInt8} {r : R.Rl} (hs : R.rvalid r = 0 → RlS r) (hr : Reads sm 0 [] s m z) (h : (addA s m z r).2.2 = 0) :
 R.rvalid r = 0 ∧ ∃ m', Reads sm 0 [] (addA s m z r).1 m' [] ∧ (addA s m z r).1.length ≤ s.length + 300 ∧ hasA m' [] r = (true, 0) ∧ addA (addA s m z r).1 m' [] r = ((addA s m z r).1, false, 0) ∧ (addA s m z r).2.1 = !(hasA m z r).1 := by
 unfold addA at h
 split at h
 · rename_i hv; exact absurd h hv
 · rename_i hv
   have hv0 : R.rvalid r = 0 := by omega
   split at h
   · cases h
   · rename_i hz
     have hz0 : z = [] := by simpa using hz
     subst hz0
     have hA : ∀ (t : List UInt8) (k : List R.Rl), hasT k r = true → hasA k [] r = (true, 0) ∧ addA t k [] r = (t, false, 0) := fun t k hk => by
      unfold hasA addA
      rw [if_neg hv, if_neg (by simp), if_neg hv, if_neg (by simp), if_pos hk, hk]
      exact ⟨rfl, rfl⟩
     split at h
     · rename_i hh
       obtain ⟨e1, e2⟩ := hA s m hh
       rw [e2]
       refine ⟨hv0, m, hr, Nat.le_add_right _ _, e1, e2, by rw [e1]; rfl⟩
     · rename_i hh
       split at h
       · cases h
       · rename_i hf
         have hf' := (smallT_iff _).1 (by simpa using hf)
         have hg := hr.is_store.1
         have hst : storeT m = s := by have := hr.is_store.2; simpa using this
         have hgood : Good sm (m ++ [r]) := hg.snoc hv0 (hs hv0) (by simpa [hasT] using hh) (by have := hf'.1; simp at this; omega) (hf'.2 r (by simp))
         have e0 : addA s m [] r = (storeT (m ++ [r]), true, 0) := by
          unfold addA
          rw [if_neg hv, if_neg (by simp), if_neg hh, if_neg hf]
         have hhas : hasT (m ++ [r]) r = true := by
          unfold hasT
          rw [List.any_append]
          simp [sm_refl]
         obtain ⟨e1, e2⟩ := hA (storeT (m ++ [r])) (m ++ [r]) hhas
         have eh : hasA m [] r = (false, 0) := by
          unfold hasA
          rw [if_neg hv, if_neg (by simp)]
          simp only [Bool.not_eq_true] at hh
          rw [hh]
         rw [e0]
         refine ⟨hv0, m ++ [r], Reads.whole hgood, ?_, e1, e2, by rw [eh]; rfl⟩
         show (storeT (m ++ [r])).length ≤ s.length + 300
         unfold storeT
         rw [storeFrom_app]
         have : storeFrom 0 m = s := hst
         rw [this, List.length_append]
         have h1 := itoa_len (n := sumT (sums 0 m) (textW r)) (by have := sumT_range (sums 0 m) (textW r); exact ⟨by omega, by omega⟩)
         have h2 := hf'.2 r (by simp)
         simp only [storeFrom, lineT, List.length_append, List.length_cons, List.length_nil]
         omega
theorem merge_law {a b : List UInt8} {m m' : List R.Rl} {z z' : List UInt8} (ha : Reads sm 0 [] a m z) (hb : Reads sm 0 [] b m' z') (h : (mergeA m z m' z').2 = 0) :
 z = [] ∧ z' = [] ∧ Good sm (mergeT sm m m') ∧ (mergeA m z m' z').1 = storeT (mergeT sm m m') ∧ mergeA (mergeT sm m m') [] m [] = ((mergeA m z m' z').1, 0) ∧ mergeA (mergeT sm m m') [] m' [] = ((mergeA m z m' z').1, 0) := by
 unfold mergeA at h
 split at h
 · cases h
 · rename_i hz
   split at h
   · cases h
   · rename_i hz'
     split at h
     · cases h
     · rename_i hl
       have hz0 : z = [] := by simpa using hz
       have hz1 : z' = [] := by simpa using hz'
       subst hz0 hz1
       have ga := ha.is_store.1
       have gb := hb.is_store.1
       have hg : Good sm (mergeT sm m m') := mergeT_good (l := m) m' m ga gb.valid gb.small gb.short (by omega)
       have e0 : (mergeA m [] m' []).1 = storeT (mergeT sm m m') := by unfold mergeA; rw [if_neg (by simp), if_neg (by simp), if_neg hl]
       have key : ∀ k : List R.Rl, mergeT sm (mergeT sm m m') k = mergeT sm m m' → mergeA (mergeT sm m m') [] k [] = (storeT (mergeT sm m m'), 0) := fun k hk => by
        unfold mergeA
        rw [hk, if_neg (by simp), if_neg (by simp), if_neg hl]
       rw [e0]
       refine ⟨rfl, rfl, hg, rfl, key m (mergeT_same _ _ fun r hr => any_pre (mergeT_pre m' m) ?_), key m' (mergeT_same _ _ fun r hr => mergeT_has sm_refl m' m r hr)⟩
       rw [List.any_eq_true]
       exact ⟨r, hr, sm_refl r⟩
end KT
end
section
open Go.RowKit Go.Maps Go.Lib
namespace KT
def fitsC (rs : List R.Rl) : Int := if smallT rs = true then 0 else 3
theorem rl_at {W : World} {A : Option Addr} {n : Nat} {rs : List R.Rl} (h : StAt 3 RlR W A n rs) {j : Nat} (hj : j < n) :
 ∃ (r : R.Rl) (b off nl cl nr cr np cp : Nat) (AL AR AP : Option Addr), rs[j]? = some r ∧ A = some ⟨b, off, none⟩ ∧ b < W.heap.size ∧ W.cell? ⟨b, off + j * 3, none⟩ = some (.slice AL nl cl) ∧ W.cell? ⟨b, off + j * 3 + 1, none⟩ = some (.slice AR nr cr) ∧ W.cell? ⟨b, off + j * 3 + 2, none⟩ = some (.slice AP np cp) ∧ RlAt W r nl nr np AL AR AP := by
 obtain ⟨r, b, off, us, hx, hA, hb, hl, hc, nl, cl, nr, cr, np, cp, AL, AR, AP, rfl, hr⟩ := h.at_ hj
 exact ⟨r, b, off, nl, cl, nr, cr, np, cp, AL, AR, AP, hx, hA, hb, hc 0 _ rfl, hc 1 _ rfl, hc 2 _ rfl, hr⟩
theorem ralike_any {r q : R.Rl} {nl cl nr cr np cp ml dl mr dr mp dp : Nat} {AL AR AP BL BR BP : Option Addr} {W : World} (hR : RlAt W r nl nr np AL AR AP) (hv : R.rvalid r = 0) (hQ : RlAt W q ml mr mp BL BR BP) (hw : R.rvalid q = 0) :
 Calls Tryz.prog 145 #[.agg #[.slice AL nl cl, .slice AR nr cr, .slice AP np cp], .agg #[.slice BL ml dl, .slice BR mr dr, .slice BP mp dp]] W fun e W' => e = .returned (.bool (sm r q)) ∧ Below W.heap.size W W' := by
 obtain ⟨W1, hW1⟩ : ∃ W1, W1 = (W.alloc (.cells #[.slice AL nl cl, .slice AR nr cr, .slice AP np cp] 33)).alloc (.cells #[.slice BL ml dl, .slice BR mr dr, .slice BP mp dp] 33) := ⟨_, rfl⟩
 have hb1 : Below W.heap.size W W1 := by rw [hW1]; exact (al0).alloc (by simp) _
 have hrow : W1.heap[W.heap.size]? = some (.cells #[.slice AL nl cl, .slice AR nr cr, .slice AP np cp] 33 (0, 0)) := by rw [hW1]; exact row_alloc (heap_alloc_new W _) _
 have hrow2 : W1.heap[W.heap.size + 1]? = some (.cells #[.slice BL ml dl, .slice BR mr dr, .slice BP mp dp] 33 (0, 0)) := by rw [hW1]; exact new_two W _ _
 obtain ⟨L, Q, hS⟩ := Sides.ex (R.rok_of hv)
 obtain ⟨L', Q', hS'⟩ := Sides.ex (R.rok_of hw)
 have HC := kH (RF.sameKey_any (cl := cl) (cr := cr) (cp := cp) (dl := dl) (dr := dr) (dp := dp) (hR.below hb1) (R.rok_of hv) hS (hQ.below hb1) (R.rok_of hw) hS')
 have HB1 := kH hb1
 have HW1 := kH hW1
 obtain ⟨c0, c1, c2, _⟩ := rl_cells hrow
 obtain ⟨d0, d1, d2, _⟩ := rl_cells hrow2
 clear hR hv hQ hw hS hS' hb1 hrow hrow2 hW1
 go_enter Tryz.func145, Tryz.ntmps145
 go_upto_region 1 with (fail)
 rw [← HW1.out]
 go_wp2_with fail
 (with_reducible refine HC.out.mono ?_)
 rintro e w2 ⟨rfl, hb2⟩
 have Hb2 := kH (HB1.out.trans (hb2.mono HB1.out.size))
 clear hb2 c0 c1 c2 d0 d1 d2 HC
 go_wp2
 go_ret
 exact ⟨rfl, Hb2.out⟩
theorem rthere_any {rs : List R.Rl} {A : Option Addr} {n c : Nat} {q : R.Rl} {ml dl mr dr mp dp : Nat} {BL BR BP : Option Addr} {W : World} (hS : StAt 3 RlR W A n rs) (hv : ∀ r ∈ rs, R.rvalid r = 0) (hQ : RlAt W q ml mr mp BL BR BP) (hw : R.rvalid q = 0) :
 Calls Tryz.prog 83 #[.slice A n c, .agg #[.slice BL ml dl, .slice BR mr dr, .slice BP mp dp]] W fun e W' => e = .returned (.bool (hasT rs q)) ∧ Below W.heap.size W W' := by
 obtain ⟨W1, hW1⟩ : ∃ W1, W1 = W.alloc (.cells #[.slice BL ml dl, .slice BR mr dr, .slice BP mp dp] 33) := ⟨_, rfl⟩
 have hb1 : Below W.heap.size W W1 := by rw [hW1]; exact al0
 have hrow : W1.heap[W.heap.size]? = some (.cells #[.slice BL ml dl, .slice BR mr dr, .slice BP mp dp] 33 (0, 0)) := by rw [hW1]; exact heap_alloc_new W _
 have HS := kH (hS.below monoRl hb1)
 have Hv := kH hv
 have HQ := kH (hQ.below hb1)
 have Hw := kH hw
 have HB1 := kH hb1
 have HW1 := kH hW1
 have Hrow := kH hrow
 have Hn := kH hS.len
 have hnn := hS.le
 clear hS hv hQ hw hb1 hrow hW1
 go_enter Tryz.func83, Tryz.ntmps83
 go_upto_region 1 with (fail)
 rw [← HW1.out]
 go_wp2_with fail
 go_loopg [5] (n + 1) (fun gg s5 wr => ∃ j : Nat, j ≤ n ∧ s5 = .int .i64 (j : Int) ∧ gg + j = n + 1 ∧ Hid ((rs.take j).any (fun p => sm p q) = false) ∧ Hid (Below W1.heap.size W1 wr))
 case atStart => exact ⟨0, Nat.zero_le _, rfl, rfl, kH rfl, kH (Below.refl _ _)⟩
 case round =>
  obtain ⟨j, hj, rfl, hgk, Ha, Hb⟩ := hrel
  have Hgk := kH hgk
  clear hgk
  by_cases hjn : j < n
  · obtain ⟨r, b, off, nl, cl, nr, cr, np, cp, AL, AR, AP, hx, hA, hb, c0, c1, c2, hR⟩ := rl_at (HS.out.below monoRl Hb.out) hjn
    subst hA
    have Hx := kH hx
    obtain ⟨d0, d1, d2, _⟩ := rl_cells ((Hb.out.block _ (gA Hrow.out).1).trans Hrow.out)
    obtain ⟨ov⟩ := ov_ex wr
    have HC := kH (fun u => calls_over (ov := ov) (ralike_any (cl := cl) (cr := cr) (cp := cp) (dl := dl) (dr := dr) (dp := dp) (hR.below (ov.below u)) (Hv.out r (List.mem_of_getElem? hx)) (HQ.out.below (Hb.out.trans ((ov.below u).mono Hb.out.size))) Hw.out))
    have o0 := ov.cell c0
    have o1 := ov.cell c1
    have o2 := ov.cell c2
    have p0 := ov.cell d0
    have p1 := ov.cell d1
    have p2 := ov.cell d2
    obtain ⟨s, hs⟩ : ∃ s, s = sm r q := ⟨_, rfl⟩
    have Hs := kH hs
    rw [← hs] at HC
    clear hx hb c0 c1 c2 d0 d1 d2 hR hs
    go_upto_region 4 with (fail)
    refine wp_region_ovq ov (by kernel_rfl) (by kernel_rfl) ?_
    repeat (go_big_quiet_step ((go_at_call 145; with_reducible exact HC.out _)))
    refine wpQuiet_nil ?_
    rintro _ ⟨u, rfl⟩
    have Hb2 := kH (Hb.out.trans ((ov.below u).mono Hb.out.size))
    clear o0 o1 o2 p0 p1 p2 HC
    generalize ov.f u = w2 at *
    clear ov
    cases s with
    | true =>
     have Hh := kH (show hasT rs q = true from by unfold hasT; rw [List.any_eq_true]; exact ⟨r, List.mem_of_getElem? Hx.out, Hs.out.symm⟩)
     go_wp2
     go_ret
     exact ⟨by rw [Hh.out]; rfl, HB1.out.trans (Hb2.out.mono HB1.out.size)⟩
    | false =>
     go_wp2
     go_roundg (gk - 1)
     case measure => have := Hgk.out; omega
     case rel =>
      have := Hgk.out
      refine ⟨j + 1, by omega, by go_num, by omega, kH ?_, Hb2⟩
      rw [List.take_add_one, Hx.out, List.any_append, Ha.out]
      simp [← Hs.out]
  · obtain rfl : n = j := by omega
    have Hh := kH (show hasT rs q = false from by
     have h := Ha.out
     rw [List.take_of_length_le (by rw [Hn.out]; exact Nat.le_refl _)] at h
     exact h)
    go_wp2
    go_ret
    exact ⟨by rw [Hh.out]; rfl, HB1.out.trans (Hb.out.mono HB1.out.size)⟩
theorem rfits_any {rs : List R.Rl} {A : Option Addr} {n c : Nat} {W : World} (hS : StAt 3 RlR W A n rs) (hw : ∀ r ∈ rs, Wrt r) (hT : Tens W) :
 Calls Tryz.prog 82 #[.slice A n c] W fun e W' => e = .returned (.int .i64 (fitsC rs)) ∧ Below W.heap.size W W' := by
 have HS := kH hS
 have Hw := kH hw
 have HT := kH hT
 have Hn := kH hS.len
 have hnn := hS.le
 clear hS hw hT
 go_enter Tryz.func82, Tryz.ntmps82
 by_cases hn40 : 40 < n
 · have Hh := kH (show fitsC rs = 3 from by unfold fitsC smallT; rw [Hn.out, decide_eq_false (by omega), Bool.false_and]; rfl)
   go_wp2
   go_ret
   exact ⟨by rw [Hh.out]; rfl, Below.refl _ _⟩
 go_wp2_with fail
 go_loopg [3] (n + 1) (fun gg s3 wr => ∃ j : Nat, j ≤ n ∧ s3 = .int .i64 (j : Int) ∧ gg + j = n + 1 ∧ Hid (∀ r ∈ rs.take j, (textW r).length ≤ 200) ∧ Hid (Below W.heap.size W wr))
 case atStart => exact ⟨0, Nat.zero_le _, rfl, rfl, kH (fun r h => by simp at h), kH (Below.refl _ _)⟩
 case round =>
  obtain ⟨j, hj, rfl, hgk, Ha, Hb⟩ := hrel
  have Hgk := kH hgk
  clear hgk
  by_cases hjn : j < n
  · obtain ⟨r, b, off, nl, cl, nr, cr, np, cp, AL, AR, AP, hx, hA, hb, c0, c1, c2, hR⟩ := rl_at (HS.out.below monoRl Hb.out) hjn
    subst hA
    have Hx := kH hx
    have hwr := Hw.out r (List.mem_of_getElem? hx)
    have h1 := hwr.nl
    have h2 := hwr.nr
    have h3 := hwr.np
    have HC := kH (rtext_any (cl := cl) (cr := cr) (cp := cp) hR (HT.out.below Hb.out) (by rw [← hR.sl.len]; exact h1) (by rw [← hR.sr.len]; exact h2) (by rw [← hR.sp.len]; exact h3) hwr.l hwr.q hwr.p)
    obtain ⟨t, ht⟩ : ∃ t, t = textW r := ⟨_, rfl⟩
    have Ht := kH ht
    rw [← ht] at HC
    clear hx hb hR hwr h1 h2 h3 ht
    go_wp2_with fail
    (with_reducible refine HC.out.mono ?_)
    rintro e w2 ⟨rfl, hb2⟩
    have Hb2 := kH (Hb.out.trans (hb2.mono Hb.out.size))
    clear hb2 HC c0 c1 c2
    by_cases hl : 200 < t.length
    · have Hh := kH (show fitsC rs = 3 from by
       unfold fitsC
       cases h : smallT rs with
       | false => rfl
       | true =>
        have := ((smallT_iff rs).1 h).2 r (List.mem_of_getElem? Hx.out)
        rw [← Ht.out] at this
        omega)
      go_wp2
      go_ret
      exact ⟨by rw [Hh.out]; rfl, Hb2.out⟩
    · have Hl := kH hl
      go_wp2
      go_roundg (gk - 1)
      case measure => have := Hgk.out; omega
      case rel =>
       have := Hgk.out
       refine ⟨j + 1, by omega, by go_num, by omega, kH fun p hp => ?_, Hb2⟩
       rw [List.take_add_one, Hx.out, List.mem_append] at hp
       rcases hp with hp | hp
       · exact Ha.out p hp
       · simp only [Option.toList_some, List.mem_singleton] at hp
         subst hp
         rw [← Ht.out]
         have := Hl.out
         omega
  · obtain rfl : n = j := by omega
    have Hh := kH (show fitsC rs = 0 from by
     unfold fitsC
     rw [if_pos]
     rw [smallT_iff]
     refine ⟨by rw [Hn.out]; omega, fun r hr => Ha.out r ?_⟩
     rw [List.take_of_length_le (by rw [Hn.out]; exact Nat.le_refl _)]
     exact hr)
    go_wp2
    go_ret
    exact ⟨by rw [Hh.out]; rfl, Hb.out⟩
end KT
end
section
open Go.RowKit Go.Maps Go.Lib
namespace KT
theorem lineT_len {n : Int} {r : R.Rl} (h : (textW r).length ≤ 200) : (lineT n r).length ≤ 222 := by
 have h1 := itoa_len (n := sumT n (textW r)) (by have := sumT_range n (textW r); exact ⟨by omega, by omega⟩)
 unfold lineT
 simp only [List.length_append, List.length_cons, List.length_nil]
 omega
theorem storeFrom_len : ∀ (l : List R.Rl) (n : Int), (∀ r ∈ l, (textW r).length ≤ 200) → (storeFrom n l).length ≤ 222 * l.length := by
 intro l
 induction l with
 | nil => intro n _; simp [storeFrom]
 | cons r l ih =>
  intro n h
  have h1 := lineT_len (n := n) (h r (by simp))
  have h2 := ih (sumT n (textW r)) fun q hq => h q (List.mem_cons_of_mem _ hq)
  rw [storeFrom, List.length_append, List.length_cons]
  omega
theorem sums_snoc (n : Int) (l : List R.Rl) (r : R.Rl) : sums n (l ++ [r]) = sumT (sums n l) (textW r) := by simp [sums]
theorem storeFrom_snoc (l : List R.Rl) (r : R.Rl) (n : Int) : storeFrom n (l ++ [r]) = storeFrom n l ++ (itoa (sumT (sums n l) (textW r)) ++ 32 :: textW r ++ [10]) := by
 rw [storeFrom_app]
 simp [storeFrom, lineT]
theorem sums_rng (l : List R.Rl) : 0 ≤ sums 0 l ∧ sums 0 l < 1000003 := by
 have : ∀ (l : List R.Rl) (n : Int), 0 ≤ n → n < 1000003 → 0 ≤ sums n l ∧ sums n l < 1000003 := by
  intro l
  induction l with
  | nil => intro n h0 h1; exact ⟨h0, h1⟩
  | cons r l ih => intro n _ _; exact ih _ (sumT_range n (textW r)).1 (sumT_range n (textW r)).2
 exact this l 0 (by omega) (by omega)
theorem rstore_any {rs : List R.Rl} {A : Option Addr} {n c : Nat} {W : World} (hS : StAt 3 RlR W A n rs) (hw : ∀ r ∈ rs, Wrt r) (hs : ∀ r ∈ rs, (textW r).length ≤ 200) (hn : n ≤ 1000000) (hT : Tens W) :
 Calls Tryz.prog 84 #[.slice A n c] W fun e W' => e = .returned (.string ⟨(storeT rs).toArray⟩) ∧ Below W.heap.size W W' := by
 have HS := kH hS
 have Hw := kH hw
 have Hs := kH hs
 have HT := kH hT
 have Hn := kH hS.len
 clear hS hw hT hs
 go_enter Tryz.func84, Tryz.ntmps84
 go_wp2_with fail
 go_loopg [3, 4, 5] (n + 1) (fun gg s3 s4 s5 wr => ∃ j : Nat, j ≤ n ∧ s3 = .string ⟨(storeFrom 0 (rs.take j)).toArray⟩ ∧ s4 = .int .i64 (sums 0 (rs.take j)) ∧ s5 = .int .i64 (j : Int) ∧ gg + j = n + 1 ∧ Hid (Below W.heap.size W wr))
 case atStart => exact ⟨0, Nat.zero_le _, rfl, rfl, rfl, rfl, kH (Below.refl _ _)⟩
 case round =>
  obtain ⟨j, hj, rfl, rfl, rfl, hgk, Hb⟩ := hrel
  have Hgk := kH hgk
  clear hgk
  obtain ⟨s, hs⟩ : ∃ s, s = storeFrom 0 (rs.take j) := ⟨_, rfl⟩
  obtain ⟨m, hm⟩ : ∃ m, m = sums 0 (rs.take j) := ⟨_, rfl⟩
  have Hsl := kH (show s.length ≤ 222000000 from by
   have h := storeFrom_len (rs.take j) 0 fun q hq => Hs.out q (List.mem_of_mem_take hq)
   rw [List.length_take] at h
   rw [hs]
   omega)
  have Hse := kH hs
  have Hme := kH hm
  have Hmr := kH (show 0 ≤ m ∧ m < 1000003 from by rw [hm]; exact sums_rng _)
  rw [← hs, ← hm]
  clear hs hm
  by_cases hjn : j < n
  · obtain ⟨r, b, off, nl, cl, nr, cr, np, cp, AL, AR, AP, hx, hA, hb, c0, c1, c2, hR⟩ := rl_at (HS.out.below monoRl Hb.out) hjn
    subst hA
    have Hx := kH hx
    have hwr := Hw.out r (List.mem_of_getElem? hx)
    have h1 := hwr.nl
    have h2 := hwr.nr
    have h3 := hwr.np
    have HC := kH (rtext_any (cl := cl) (cr := cr) (cp := cp) hR (HT.out.below Hb.out) (by rw [← hR.sl.len]; exact h1) (by rw [← hR.sr.len]; exact h2) (by rw [← hR.sp.len]; exact h3) hwr.l hwr.q hwr.p)
    obtain ⟨t, ht⟩ : ∃ t, t = textW r := ⟨_, rfl⟩
    have htl : t.length ≤ 200 := by rw [ht]; exact Hs.out r (List.mem_of_getElem? hx)
    have Ht := kH ht
    rw [← ht] at HC
    obtain ⟨m', hm'⟩ : ∃ m', m' = sumT m t := ⟨_, rfl⟩
    have Hm' := kH hm'
    have Hmr' := kH (show 0 ≤ m' ∧ m' < 1000003 from by rw [hm']; exact sumT_range _ _)
    have HSm := kH (fun X => rSum_any (n := m) ⟨by have := Hmr.out; omega, by have := Hmr.out; omega⟩ (t := t) (by omega) (W := X))
    rw [← hm'] at HSm
    obtain ⟨i, hi⟩ : ∃ i, i = itoa m' := ⟨_, rfl⟩
    have hil : i.length ≤ 20 := by rw [hi]; exact itoa_len ⟨by have := Hmr'.out; omega, by have := Hmr'.out; omega⟩
    have HI := kH (fun X (h : Below W.heap.size W X) => kItoa_any (n := m') ⟨by have := Hmr'.out; omega, by have := Hmr'.out; omega⟩ (HT.out.below h))
    rw [← hi] at HI
    have Hi := kH hi
    obtain ⟨s1, hs1⟩ : ∃ z, z = s ++ i := ⟨_, rfl⟩
    obtain ⟨s2, hs2⟩ : ∃ z, z = s1 ++ [32] := ⟨_, rfl⟩
    obtain ⟨s3, hs3⟩ : ∃ z, z = s2 ++ t := ⟨_, rfl⟩
    obtain ⟨s4, hs4⟩ : ∃ z, z = s3 ++ [10] := ⟨_, rfl⟩
    have hsl := Hsl.out
    have l1 : s1.length ≤ 222000020 := by rw [hs1, List.length_append]; omega
    have l2 : s2.length ≤ 222000021 := by rw [hs2, List.length_append]; simp; omega
    have l3 : s3.length ≤ 222000221 := by rw [hs3, List.length_append]; omega
    have n1 : ¬ 9223372036854775807 < s.length + i.length := by omega
    have n2 : ¬ 9223372036854775807 < s1.length + 1 := by omega
    have n3 : ¬ 9223372036854775807 < s2.length + t.length := by omega
    have n4 : ¬ 9223372036854775807 < s3.length + 1 := by omega
    have m1 : (⟨s.toArray⟩ ++ ⟨i.toArray⟩ : ByteArray) = ⟨s1.toArray⟩ := by rw [hs1]; exact ByteArray.mk_append_mk s i
    have m2 : (⟨s1.toArray⟩ ++ ⟨#[32]⟩ : ByteArray) = ⟨s2.toArray⟩ := by rw [hs2]; exact ByteArray.mk_append_mk s1 [32]
    have m3 : (⟨s2.toArray⟩ ++ ⟨t.toArray⟩ : ByteArray) = ⟨s3.toArray⟩ := by rw [hs3]; exact ByteArray.mk_append_mk s2 t
    have m4 : (⟨s3.toArray⟩ ++ ⟨#[10]⟩ : ByteArray) = ⟨s4.toArray⟩ := by rw [hs4]; exact ByteArray.mk_append_mk s3 [10]
    have He := kH (show storeFrom 0 (rs.take (j + 1)) = s4 ∧ sums 0 (rs.take (j + 1)) = m' from by
     rw [List.take_add_one, hx]
     simp only [Option.toList_some]
     rw [storeFrom_snoc, sums_snoc, ← Hse.out, ← Hme.out, ← ht, ← hm', ← hi, hs4, hs3, hs2, hs1]
     exact ⟨by simp, rfl⟩)
    clear hx hb hR hwr h1 h2 h3 ht hm' hi hs1 hs2 hs3 hs4 hsl
    go_wp2_with fail
    (with_reducible refine HC.out.mono ?_)
    rintro e w2 ⟨rfl, hb2⟩
    have Hb2 := kH (Hb.out.trans (hb2.mono Hb.out.size))
    clear hb2 HC c0 c1 c2
    go_wp2_with fail
    (with_reducible refine (HSm.out _).mono ?_)
    rintro e w3 ⟨rfl, rfl⟩
    go_wp2_with fail
    (with_reducible refine (HI.out _ Hb2.out).mono ?_)
    rintro e w4 ⟨rfl, hb4⟩
    have Hb4 := kH (Hb2.out.trans (hb4.mono Hb2.out.size))
    clear hb4
    go_wp2_with fail
    go_roundg (gk - 1)
    case measure => have := Hgk.out; omega
    case rel =>
     have := Hgk.out
     obtain ⟨e1, e2⟩ := He.out
     exact ⟨j + 1, by omega, by rw [e1], by rw [e2], by go_num, by omega, Hb4⟩
  · obtain rfl : n = j := by omega
    have Hh := kH (show storeT rs = s from by
     rw [Hse.out, List.take_of_length_le (by rw [Hn.out]; exact Nat.le_refl _)]
     rfl)
    go_wp2
    go_ret
    exact ⟨by rw [Hh.out]; rfl, Hb.out⟩
def sameT (l m : List R.Rl) : Bool := decide (l.map textW = m.map textW)
theorem sameT_refl (l : List R.Rl) : sameT l l = true := by simp [sameT]
theorem rsame_any {l k : List R.Rl} {A B : Option Addr} {n m c d : Nat} {W : World} (hS : StAt 3 RlR W A n l) (hw : ∀ r ∈ l, Wrt r) (hK : StAt 3 RlR W B m k) (hz : ∀ r ∈ k, Wrt r) (hT : Tens W) :
 Calls Tryz.prog 27 #[.slice A n c, .slice B m d] W fun e W' => e = .returned (.bool (sameT l k)) ∧ Below W.heap.size W W' := by
 have HS := kH hS
 have Hw := kH hw
 have HK := kH hK
 have Hz := kH hz
 have HT := kH hT
 have Hn := kH hS.len
 have Hm := kH hK.len
 have hnn := hS.le
 have hmm := hK.le
 clear hS hw hT hK hz
 go_enter Tryz.func27, Tryz.ntmps27
 by_cases hnm : n = m
 rotate_left
 · have Hh := kH (show sameT l k = false from by
    unfold sameT
    refine decide_eq_false fun e => hnm ?_
    have := congrArg List.length e
    rw [List.length_map, List.length_map, Hn.out, Hm.out] at this
    exact this)
   have q : ((n : Int) == (m : Int)) = false := by simp; omega
   go_wp2_with fail
   go_ret
   exact ⟨by rw [Hh.out]; rfl, Below.refl _ _⟩
 subst hnm
 go_wp2_with fail
 go_loopg [5] (n + 1) (fun gg s5 wr => ∃ j : Nat, j ≤ n ∧ s5 = .int .i64 (j : Int) ∧ gg + j = n + 1 ∧ Hid ((l.take j).map textW = (k.take j).map textW) ∧ Hid (Below W.heap.size W wr))
 case atStart => exact ⟨0, Nat.zero_le _, rfl, rfl, kH rfl, kH (Below.refl _ _)⟩
 case round =>
  obtain ⟨j, hj, rfl, hgk, Ha, Hb⟩ := hrel
  have Hgk := kH hgk
  clear hgk
  by_cases hjn : j < n
  · obtain ⟨r, b, off, nl, cl, nr, cr, np, cp, AL, AR, AP, hx, hA, hb, c0, c1, c2, hR⟩ := rl_at (HS.out.below monoRl Hb.out) hjn
    subst hA
    obtain ⟨q, b', off', ml, dl, mr, dr, mp, dp, BL, BR, BP, hy, hA', hb', d0, d1, d2, hQ⟩ := rl_at (HK.out.below monoRl Hb.out) hjn
    subst hA'
    have Hx := kH hx
    have Hy := kH hy
    have hwr := Hw.out r (List.mem_of_getElem? hx)
    have hwq := Hz.out q (List.mem_of_getElem? hy)
    have h1 := hwr.nl
    have h2 := hwr.nr
    have h3 := hwr.np
    have g1 := hwq.nl
    have g2 := hwq.nr
    have g3 := hwq.np
    rw [hR.sl.len] at h1
    rw [hR.sr.len] at h2
    rw [hR.sp.len] at h3
    rw [hQ.sl.len] at g1
    rw [hQ.sr.len] at g2
    rw [hQ.sp.len] at g3
    obtain ⟨ov⟩ := ov_ex wr
    have HC := kH (fun u => calls_over (ov := ov) (rtext_any (cl := cl) (cr := cr) (cp := cp) (hR.below (ov.below u)) ((HT.out.below Hb.out).below (ov.below u)) h1 h2 h3 hwr.l hwr.q hwr.p))
    have HD := kH (fun u => calls_over (ov := ov) (rtext_any (cl := dl) (cr := dr) (cp := dp) (hQ.below (ov.below u)) ((HT.out.below Hb.out).below (ov.below u)) g1 g2 g3 hwq.l hwq.q hwq.p))
    have o0 := ov.cell c0
    have o1 := ov.cell c1
    have o2 := ov.cell c2
    have p0 := ov.cell d0
    have p1 := ov.cell d1
    have p2 := ov.cell d2
    obtain ⟨t, ht⟩ : ∃ t, t = textW r := ⟨_, rfl⟩
    obtain ⟨z, hz⟩ : ∃ t, t = textW q := ⟨_, rfl⟩
    have Ht := kH ht
    have Hzt := kH hz
    rw [← ht] at HC
    rw [← hz] at HD
    clear hx hb c0 c1 c2 d0 d1 d2 hR ht hz hy hb' hQ hwr hwq h1 h2 h3 g1 g2 g3
    go_upto_region 6 with (fail)
    refine wp_region_ovq ov (by kernel_rfl) (by kernel_rfl) ?_
    repeat (go_big_quiet_step ((first | (go_at_call 74; with_reducible exact HC.out _) | (go_at_call 74; with_reducible exact HD.out _))))
    refine wpQuiet_nil ?_
    rintro _ ⟨u, rfl⟩
    have Hb2 := kH (Hb.out.trans ((ov.below u).mono Hb.out.size))
    clear o0 o1 o2 p0 p1 p2 HC HD
    generalize ov.f u = w2 at *
    clear ov
    by_cases he : t = z
    · have He := kH he
      have q1 : (t == z) = true := by simpa using he
      have q2 : (!(t == z)) = false := by rw [q1]; rfl
      rw [q2]
      clear he q1 q2
      go_wp2
      go_roundg (gk - 1)
      case measure => have := Hgk.out; omega
      case rel =>
       have := Hgk.out
       refine ⟨j + 1, by omega, by go_num, by omega, kH ?_, Hb2⟩
       rw [List.take_add_one, List.take_add_one, Hx.out, Hy.out, List.map_append, List.map_append, Ha.out]
       simp only [Option.toList_some, List.map_cons, List.map_nil]
       rw [← Ht.out, ← Hzt.out, He.out]
    · have q1 : (t == z) = false := by simpa using he
      have Hh := kH (show sameT l k = false from by
       unfold sameT
       refine decide_eq_false fun e => he ?_
       have h1 := congrArg (·[j]?) e
       simp only [List.getElem?_map, Hx.out, Hy.out, Option.map_some] at h1
       injection h1 with h1
       rw [Ht.out, Hzt.out, h1])
      have q2 : (!(t == z)) = true := by rw [q1]; rfl
      rw [q2]
      clear he q1 q2
      go_wp2
      go_ret
      exact ⟨by rw [Hh.out]; rfl, Hb2.out⟩
  · obtain rfl : n = j := by omega
    have Hh := kH (show sameT l k = true from by
     unfold sameT
     refine decide_eq_true ?_
     have h := Ha.out
     rw [List.take_of_length_le (by rw [Hn.out]; exact Nat.le_refl _), List.take_of_length_le (by rw [Hm.out]; exact Nat.le_refl _)] at h
     exact h)
    go_wp2
    go_ret
    exact ⟨by rw [Hh.out]; rfl, Hb.out⟩
end KT
end
section
open Go.RowKit Go.Maps Go.Lib
namespace KT
theorem builder_below {T e : TypeId} {B b : Nat} {bs : List Value} {w w' : World} (h : Lib.IsBuilderF T e B b bs w) (hb : Below w.heap.size w w') : Lib.IsBuilderF T e B b bs w' := by
 have key : ∀ p, Lib.BuilderAtF T e B b p bs w → Lib.BuilderAtF T e B b p bs w' := by
  rintro p ⟨h1, v, h2, h3, h4⟩
  refine ⟨h1, v, (hb.block _ (gA h2).1).trans h2, ⟨h3.1, ?_⟩, h4⟩
  rcases h3.2 with h | ⟨g, cap, cur, fz, e1, e2, e3, e4⟩
  · exact .inl h
  · exact .inr ⟨g, cap, cur, fz, e1, e2, (hb.block _ (gA e3).1).trans e3, e4⟩
 rcases h with h | h
 · exact .inl (key _ h)
 · exact .inr (key _ h)
theorem builder_new {B : Nat} {w : World} (hB : B ≤ w.heap.size) : Lib.IsBuilderF 197 5 B w.heap.size (Lib.byteCells []) (w.alloc (.cells #[.pointer none, .slice none 0 0] 197)) :=
 .inl ⟨hB, .slice none 0 0, heap_alloc_new w _, ⟨rfl, .inl ⟨rfl, rfl⟩⟩, by simp [Value.ownBlock]⟩
def ekS (k : List UInt8) : Value := .string ⟨k.toArray⟩
theorem ekS_inj : ∀ a b, ekS a = ekS b → a = b := fun a b h => by
 unfold ekS at h
 injection h with h
 exact bytes_eq.1 h
theorem strKeyed : Keyed Tryz.prog 9 := string_keyed Tryz.underlying9
theorem keyOf_str {k : List UInt8} (h : k.length ≤ 1000000000) : keyOf Tryz.prog 9 (ekS k) = some (.string k) := by
 have hsz : (⟨k.toArray⟩ : ByteArray).size = k.length := by show k.toArray.size = _; simp
 have := WideMaps.keyOf_string_mk (P := Tryz.prog) Tryz.underlying9 (s := ⟨k.toArray⟩) (by rw [hsz]; simp only [maxLen]; omega)
 simpa [ekS] using this
def entS (s : List (List UInt8)) : List (List UInt8 × Int) := s.zipIdx.map fun p => (p.1, (p.2 : Int))
theorem entS_keys (s : List (List UInt8)) : (entS s).map Prod.fst = s := by
 unfold entS
 rw [List.map_map]
 exact List.zipIdx_map_fst 0 s
theorem entS_get {s : List (List UInt8)} (hd : s.Nodup) (n : List UInt8) : AL.get (entS s) n = if n ∈ s then some ((s.idxOf n : Nat) : Int) else none := by
 split
 · rename_i h
   have hk := List.idxOf_lt_length_iff.2 h
   refine AL.get_some (j := s.idxOf n) (by rw [entS_keys]; exact hd) ?_
   unfold entS
   rw [List.getElem?_map, List.getElem?_zipIdx, List.getElem?_eq_getElem hk]
   simp
 · rename_i h
   refine AL.get_none fun p hp e => h ?_
   rw [← entS_keys s]
   exact List.mem_map.2 ⟨p, hp, e⟩
theorem entS_put {s : List (List UInt8)} {n : List UInt8} (h : n ∉ s) : AL.put (entS s) n (s.length : Int) = entS (s ++ [n]) := by
 rw [AL.put_none (fun p hp e => h (by rw [← entS_keys s]; exact List.mem_map.2 ⟨p, hp, e⟩))]
 unfold entS
 rw [List.zipIdx_append]
 simp
def IntK (_ : World) (_ : List UInt8) (u : Value) (n : Int) : Prop := u = .int .i64 n
def Nst (g mb : Nat) (v : Value) (i : Nat) : Prop := i = g ∨ i = mb ∨ v.ownBlock = some i
structure StoreAt (B : Nat) (w : World) (g : Nat) (v : Value) (mb : Nat) (rs : List R.Rl) (ks : List (List UInt8)) : Prop where
 row : w.heap[g]? = some (.cells #[v, .map (some mb)] 128 (0, 0))
 own : OwnL (fun i => i < B ∨ i = g ∨ i = mb) w v rs
 map_ : MapAt Tryz.prog 9 ekS IntK w mb (entS ks)
 nd : ks.Nodup
 len : ks.length = rs.length
 key : ∀ (i : Nat) (r : R.Rl) (k : List UInt8), rs[i]? = some r → ks[i]? = some k → IsKey r k
 val : ∀ r ∈ rs, R.rvalid r = 0
section
variable {B : Nat} {w w' : World} {g mb : Nat} {v : Value} {rs : List R.Rl} {ks : List (List UInt8)}
theorem StoreAt.lt (h : StoreAt B w g v mb rs ks) : g < w.heap.size := (gA h.row).1
theorem StoreAt.below (h : StoreAt B w g v mb rs ks) (hb : Below w.heap.size w w') : StoreAt B w' g v mb rs ks :=
 ⟨(hb.block _ h.lt).trans h.row, h.own.below hb, h.map_.keep (hb.block _ h.map_.lt) fun _ _ _ h => h, h.nd, h.len, h.key, h.val⟩
theorem StoreAt.wrt (h : StoreAt B w g v mb rs ks) : ∀ r ∈ rs, Wrt r := fun r hr => by
 obtain ⟨k, hk⟩ := List.mem_iff_getElem?.1 hr
 obtain ⟨cells, _, h2⟩ := h.own
 exact wrt_of_valid (h2 k r hk).now (h.val r hr)
theorem StoreAt.has (h : StoreAt B w g v mb rs ks) {r : R.Rl} {k : List UInt8} (hv : R.rvalid r = 0) (hk : IsKey r k) : decide (k ∈ ks) = hasT rs r := by
 rw [Bool.eq_iff_iff, decide_eq_true_iff]
 unfold hasT
 rw [List.any_eq_true]
 constructor
 · intro hm
   obtain ⟨i, hi⟩ := List.mem_iff_getElem?.1 hm
   have hlt := (List.getElem?_eq_some_iff.1 hi).1
   rw [h.len] at hlt
   have hr := List.getElem?_eq_getElem hlt
   refine ⟨rs[i], List.getElem_mem hlt, ?_⟩
   exact (IsKey.iff (R.rok_of (h.val _ (List.getElem_mem hlt))) (R.rok_of hv) (h.key i _ _ hr hi) hk).1 rfl
 · rintro ⟨q, hq, e⟩
   obtain ⟨i, hi⟩ := List.mem_iff_getElem?.1 hq
   have hlt := (List.getElem?_eq_some_iff.1 hi).1
   rw [← h.len] at hlt
   have hki := List.getElem?_eq_getElem hlt
   have := (IsKey.iff (R.rok_of (h.val _ hq)) (R.rok_of hv) (h.key i _ _ hi hki) hk).2 e
   rw [← this]
   exact List.getElem_mem hlt
end
theorem newStore_any {B : Nat} {W : World} : Calls Tryz.prog 79 #[] W fun e w' => ∃ g mb, e = .returned (.pointer (some ⟨g, 0, none⟩)) ∧ StoreAt B w' g (.slice none 0 0) mb [] [] ∧ Below W.heap.size W w' ∧ W.heap.size ≤ g ∧ W.heap.size ≤ mb := by
 have hmk : ∀ w : World, (Instr.makeMap 126 none).run Tryz.prog w = .ok (.map (some w.heap.size)) (w.alloc (.map #[] 0)) := fun w => by simp [Instr.makeMap]
 go_enter Tryz.func79, Tryz.ntmps79
 go_wp2
 go_ret
 refine ⟨W.heap.size + 1, W.heap.size, by first | rfl | simp, ⟨?_, OwnL.nil_ _ _, ?_, .nil, rfl, fun i r k h => by simp at h, fun r h => by simp at h⟩, (al0).alloc (by simp) _, by omega, Nat.le_refl _⟩
 · exact new_two W _ _
 · refine (MapAt.made (R := IntK) W).keep (R' := IntK) ?_ fun _ _ _ h => h
   exact (row_alloc (heap_alloc_new W _) _).trans (heap_alloc_new W _).symm
theorem text_any {rs : List R.Rl} {A : Option Addr} {n c g : Nat} {m : Value} {W : World} (hg : W.heap[g]? = some (.cells #[.slice A n c, m] 128 (0, 0))) (hS : StAt 3 RlR W A n rs) (hw : ∀ r ∈ rs, Wrt r) (hs : ∀ r ∈ rs, (textW r).length ≤ 200) (hn : n ≤ 1000000) (hT : Tens W) :
 Calls Tryz.prog 81 #[.pointer (some ⟨g, 0, none⟩)] W fun e W' => e = .returned (.string ⟨(storeT rs).toArray⟩) ∧ Below W.heap.size W W' := by
 obtain ⟨W1, hW1⟩ : ∃ W1, W1 = W.alloc (.cells #[.pointer none, .slice none 0 0] 197) := ⟨_, rfl⟩
 have hb1 : Below W.heap.size W W1 := by rw [hW1]; exact al0
 have HBu := kH (show Lib.IsBuilderF 197 5 W.heap.size W.heap.size (Lib.byteCells []) W1 from by rw [hW1]; exact builder_new (Nat.le_refl _))
 have HS := kH hS
 have Hw := kH hw
 have Hs := kH hs
 have HT := kH hT
 have Hn := kH hS.len
 have HB1 := kH hb1
 have HW1 := kH hW1
 have g0 : W1.cell? ⟨g, 0, none⟩ = some (.slice A n c) := by
  rw [cell_of_row _ _ _ _ _ (0, 0) ((hb1.block _ (gA hg).1).trans hg)]
  rfl
 clear hS hw hT hs hb1 hW1 hg
 go_enter Tryz.func81, Tryz.ntmps81
 go_upto_region 2 with (fail)
 rw [← HW1.out]
 go_wp2_with fail
 clear g0
 go_loopg [4, 13] (n + 1) (fun gg s4 s13 wr => ∃ j : Nat, j ≤ n ∧ s4 = .int .i64 (sums 0 (rs.take j)) ∧ s13 = .int .i64 (j : Int) ∧ gg + j = n + 1 ∧ Hid (Lib.IsBuilderF 197 5 W.heap.size W.heap.size (Lib.byteCells (storeFrom 0 (rs.take j))) wr) ∧ Hid (Below W.heap.size W wr))
 case atStart => exact ⟨0, Nat.zero_le _, rfl, rfl, rfl, HBu, HB1⟩
 case round =>
  obtain ⟨j, hj, rfl, rfl, hgk, HBj, Hb⟩ := hrel
  have Hgk := kH hgk
  clear hgk
  obtain ⟨s, hs⟩ : ∃ s, s = storeFrom 0 (rs.take j) := ⟨_, rfl⟩
  obtain ⟨m, hm⟩ : ∃ m, m = sums 0 (rs.take j) := ⟨_, rfl⟩
  have Hsl := kH (show s.length ≤ 222000000 from by
   have h := storeFrom_len (rs.take j) 0 fun q hq => Hs.out q (List.mem_of_mem_take hq)
   rw [List.length_take] at h
   rw [hs]
   omega)
  have Hse := kH hs
  have Hme := kH hm
  have Hmr := kH (show 0 ≤ m ∧ m < 1000003 from by rw [hm]; exact sums_rng _)
  rw [← hm]
  rw [← hs] at HBj
  clear hs hm
  by_cases hjn : j < n
  · obtain ⟨r, b, off, nl, cl, nr, cr, np, cp, AL, AR, AP, hx, hA, hb, c0, c1, c2, hR⟩ := rl_at (HS.out.below monoRl Hb.out) hjn
    subst hA
    have Hx := kH hx
    have hwr := Hw.out r (List.mem_of_getElem? hx)
    have h1 := hwr.nl
    have h2 := hwr.nr
    have h3 := hwr.np
    obtain ⟨wa, hwa⟩ : ∃ wa, wa = wr.alloc (.cells #[.slice AL nl cl, .slice AR nr cr, .slice AP np cp] 33) := ⟨_, rfl⟩
    have hba : Below wr.heap.size wr wa := by rw [hwa]; exact al0
    have hrow : wa.heap[wr.heap.size]? = some (.cells #[.slice AL nl cl, .slice AR nr cr, .slice AP np cp] 33 (0, 0)) := by rw [hwa]; exact heap_alloc_new wr _
    have Hba := kH (Hb.out.trans (hba.mono Hb.out.size))
    have HBa := kH (builder_below HBj.out hba)
    have HC := kH (written_any (cl := cl) (cr := cr) (cp := cp) (hR.below hba) (HT.out.below Hba.out) (by rw [← hR.sl.len]; exact h1) (by rw [← hR.sr.len]; exact h2) (by rw [← hR.sp.len]; exact h3) hwr.l hwr.q hwr.p)
    obtain ⟨t, ht⟩ : ∃ t, t = textW r := ⟨_, rfl⟩
    have htl : t.length ≤ 200 := by rw [ht]; exact Hs.out r (List.mem_of_getElem? hx)
    have Ht := kH ht
    rw [← ht] at HC
    obtain ⟨m', hm'⟩ : ∃ m', m' = sumT m t := ⟨_, rfl⟩
    have Hm' := kH hm'
    have Hmr' := kH (show 0 ≤ m' ∧ m' < 1000003 from by rw [hm']; exact sumT_range _ _)
    have HSm := kH (fun X => Sum_any (n := m) ⟨by have := Hmr.out; omega, by have := Hmr.out; omega⟩ (t := t) (by omega) (W := X))
    rw [← hm'] at HSm
    obtain ⟨i, hi⟩ : ∃ i, i = itoa m' := ⟨_, rfl⟩
    have hil : i.length ≤ 20 := by rw [hi]; exact itoa_len ⟨by have := Hmr'.out; omega, by have := Hmr'.out; omega⟩
    have HI := kH (fun X (h : Below W.heap.size W X) => kItoa_any (n := m') ⟨by have := Hmr'.out; omega, by have := Hmr'.out; omega⟩ (HT.out.below h))
    rw [← hi] at HI
    have Hi := kH hi
    obtain ⟨s2, hs2⟩ : ∃ z, z = i ++ [32] := ⟨_, rfl⟩
    obtain ⟨s3, hs3⟩ : ∃ z, z = s2 ++ t := ⟨_, rfl⟩
    obtain ⟨s4, hs4⟩ : ∃ z, z = s3 ++ [10] := ⟨_, rfl⟩
    have l2 : s2.length ≤ 21 := by rw [hs2, List.length_append]; simp; omega
    have l3 : s3.length ≤ 221 := by rw [hs3, List.length_append]; omega
    have l4 : s4.length ≤ 222 := by rw [hs4, List.length_append]; simp; omega
    have n2 : ¬ 9223372036854775807 < i.length + 1 := by omega
    have n3 : ¬ 9223372036854775807 < s2.length + t.length := by omega
    have n4 : ¬ 9223372036854775807 < s3.length + 1 := by omega
    have m2 : (⟨i.toArray⟩ ++ ⟨#[32]⟩ : ByteArray) = ⟨s2.toArray⟩ := by rw [hs2]; exact ByteArray.mk_append_mk i [32]
    have m3 : (⟨s2.toArray⟩ ++ ⟨t.toArray⟩ : ByteArray) = ⟨s3.toArray⟩ := by rw [hs3]; exact ByteArray.mk_append_mk s2 t
    have m4 : (⟨s3.toArray⟩ ++ ⟨#[10]⟩ : ByteArray) = ⟨s4.toArray⟩ := by rw [hs4]; exact ByteArray.mk_append_mk s3 [10]
    have He := kH (show storeFrom 0 (rs.take (j + 1)) = s ++ s4 ∧ sums 0 (rs.take (j + 1)) = m' from by
     rw [List.take_add_one, hx]
     simp only [Option.toList_some]
     rw [storeFrom_snoc, sums_snoc, ← Hse.out, ← Hme.out, ← ht, ← hm', ← hi, hs4, hs3, hs2]
     exact ⟨by simp, rfl⟩)
    have Hl4 := kH l4
    obtain ⟨r0, r1, r2, _⟩ := rl_cells hrow
    clear hx hb hR hwr h1 h2 h3 ht hm' hi hs2 hs3 hs4 hba hrow
    go_upto_region 6 with (fail)
    rw [← hwa]
    clear hwa c0 c1 c2
    go_wp2_with fail
    (with_reducible refine HC.out.mono ?_)
    rintro e w2 ⟨rfl, hb2⟩
    have Hb2 := kH (Hba.out.trans (hb2.mono Hba.out.size))
    have HB2 := kH (builder_below HBa.out hb2)
    clear hb2 HC r0 r1 r2
    go_wp2_with fail
    (with_reducible refine (HSm.out _).mono ?_)
    rintro e w3 ⟨rfl, hb3⟩
    have Hb3 := kH (Hb2.out.trans (hb3.mono Hb2.out.size))
    have HB3 := kH (builder_below HB2.out hb3)
    clear hb3
    go_wp2_with fail
    (with_reducible refine (HI.out _ Hb3.out).mono ?_)
    rintro e w4 ⟨rfl, hb4⟩
    have Hb4 := kH (Hb3.out.trans (hb4.mono Hb3.out.size))
    have HB4 := kH (builder_below HB3.out hb4)
    have Hsz := kH (show (⟨s4.toArray⟩ : ByteArray).size = s4.length from by show s4.toArray.size = _; simp)
    have HWr := kH (Tryz.Builder_WriteString_k W.heap.size W.heap.size (Lib.byteCells s) ⟨s4.toArray⟩ w4 HB4.out (by rw [Lib.byteCells_length, Hsz.out]; have := Hsl.out; have := Hl4.out; omega) Hb4.out.size)
    clear hb4
    go_wp2_with fail
    (refine HWr.out.mono ?_)
    rintro e w5 ⟨rfl, hbd, hb5, _⟩
    have Hb5 := kH (Hb4.out.trans hb5)
    have HB5 := kH (show Lib.IsBuilderF 197 5 W.heap.size W.heap.size (Lib.byteCells (s ++ s4)) w5 from .inr (by rw [Lib.byteCells_append]; exact hbd))
    clear hbd hb5 HWr
    go_wp2_with fail
    go_roundg (gk - 1)
    case measure => have := Hgk.out; omega
    case rel =>
     have := Hgk.out
     obtain ⟨e1, e2⟩ := He.out
     exact ⟨j + 1, by omega, by rw [e2], by go_num, by omega, kH (by rw [e1]; exact HB5.out), Hb5⟩
  · obtain rfl : n = j := by omega
    have Hh := kH (show storeT rs = s from by
     rw [Hse.out, List.take_of_length_le (by rw [Hn.out]; exact Nat.le_refl _)]
     rfl)
    have HSt := kH (Tryz.Builder_String_any_k W.heap.size W.heap.size s wr HBj.out Hb.out.size)
    go_wp2_with fail
    (refine HSt.out.mono ?_)
    rintro e w5 ⟨rfl, _, hb5, _⟩
    have Hb5 := kH (Hb.out.trans hb5)
    clear hb5 HSt
    go_wp2
    go_ret
    exact ⟨by rw [Hh.out]; rfl, Hb5.out⟩
end KT
end
end Go.Proofs.YtbiopedpceddeaaGreatDoor
