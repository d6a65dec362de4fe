/- Rules: numbers for holes, preconditions and sides (the program's sized, Meets, Sides). -/
import Derived.Test.YtmebpgggfppmhaaDoorG36
set_option linter.unusedVariables false
set_option linter.unusedSimpArgs false
namespace Go.Proofs.YtmebpgggfppmhaaDoor
open Go.RowKit
set_option linter.unusedVariables false
set_option linter.unusedSimpArgs false

/-- a function value answers p x at each x of xs, and turns nothing -/
def AnswersU (f : FuncId) (caps : Array Value) (p : Int → Bool) (xs : List Int) (w : World) : Prop := (∀ args W', (callFunc f args).run Tryd.prog W' = .ok (.enter f args) W') ∧ ∀ x ∈ xs, Calls Tryd.prog f (#[.int .u32 x] ++ caps) w fun e w' => e = .returned (.bool (p x)) ∧ w = w'

set_option maxHeartbeats 400000 in
theorem idxU_any (f : FuncId) (caps : Array Value) (p : Int → Bool) (A : Option Addr) (m c : Nat) (xs : List Int) (w : World) (hA : SlAt (IntR .u32) w A m xs) (hf : AnswersU f caps p xs w) :
    Calls Tryd.prog 113 #[.slice A m c, .func (.func f) #[] caps] w fun e w' => ∃ r : Int, e = .returned (.int .i64 r) ∧ decide (0 ≤ r) = xs.any p ∧ -1 ≤ r ∧ w = w' := by
  have hl := hA.le
  have HA := Lib.hid hA; clear hA
  have HP := Lib.hid hf.2
  have hen := hf.1
  clear hf
  go_enter Tryd.func113, Tryd.ntmps113
  go_wp2
  go_loop [8] (fun i => ∃ k : Nat, k ≤ m ∧ i = .int .i64 k ∧ Hid ((xs.take k).any p = false)) (fun i => m - (intOf i).toNat)
  case atStart => exact ⟨0, Nat.zero_le _, rfl, rfl⟩
  case round =>
    obtain ⟨k, hk, rfl, HT⟩ := hrel
    by_cases hlt : k < m
    · obtain ⟨x, b, off, u, hx, rfl, _, h1, rfl⟩ := HA.out.at_ hlt
      have con := HP.out x (List.mem_of_getElem? hx)
      have Hx := Lib.hid hx; clear hx
      cases hpx : p x
      · rw [hpx] at con
        have Hcon := Lib.hid con; clear con
        have Hpx := Lib.hid hpx; clear hpx
        go_wp2_with fail
        (with_reducible refine Hcon.out.mono ?_)
        rintro e w' ⟨rfl, rfl⟩
        go_wp2
        go_round
        case rel => exact ⟨k + 1, by omega, by go_num, any_take_step Hx.out HT.out Hpx.out⟩
        case measure => simp [intOf]; omega
      · rw [hpx] at con
        have Hcon := Lib.hid con; clear con
        have Hpx := Lib.hid hpx; clear hpx
        go_wp2_with fail
        (with_reducible refine Hcon.out.mono ?_)
        rintro e w' ⟨rfl, rfl⟩
        go_wp2
        go_ret
        exact ⟨_, rfl, by rw [any_true_at Hx.out Hpx.out]; simp, by omega, rfl⟩
    · go_wp2
      go_ret
      have h3 := HT.out
      rw [take_all HA.out.len (by omega)] at h3
      exact ⟨_, rfl, by rw [h3]; rfl, by omega, rfl⟩

set_option maxHeartbeats 400000 in
theorem hasU_any (f : FuncId) (caps : Array Value) (p : Int → Bool) (A : Option Addr) (m c : Nat) (xs : List Int) (w : World) (hA : SlAt (IntR .u32) w A m xs) (hf : AnswersU f caps p xs w) :
    Calls Tryd.prog 90 #[.slice A m c, .func (.func f) #[] caps] w fun e w' => e = .returned (.bool (xs.any p)) ∧ w = w' := by
  have Hcon := Lib.hid (idxU_any f caps p A m c xs w hA hf); clear hA hf
  go_enter Tryd.func90, Tryd.ntmps90
  go_wp2_with fail
  (with_reducible refine Hcon.out.mono ?_)
  rintro e w' ⟨r, rfl, hr, hr1, rfl⟩
  have Hr := Lib.hid hr; clear hr
  go_wp2
  go_ret
  exact ⟨ret_bool (by rw [← Hr.out]), rfl⟩

theorem sizedClo_any (wd : Int) (xs : List Int) (g : Nat) (w : World) (h0 : ∀ x ∈ xs, 0 ≤ x) (hc : w.cell? ⟨g, 0, none⟩ = some (.int .i64 wd)) :
    AnswersU 91 #[.pointer (some ⟨g, 0, none⟩)] (fun x => !B.isW wd x) xs w := by
  refine ⟨enters_of Tryd.func91 (by kernel_rfl) rfl, fun x hx => ?_⟩
  have HI := Lib.hid (gisWord_any wd x w (h0 x hx))
  dsimp only
  simp only [List.append_toArray, List.nil_append, List.cons_append]
  clear h0
  obtain ⟨r, hr⟩ : ∃ r, B.isW wd x = r := ⟨_, rfl⟩
  rw [hr] at HI ⊢
  clear hr
  cases r
  all_goals
    go_enter Tryd.func91, Tryd.ntmps91
    go_wp2_with fail
    (with_reducible refine HI.out.mono ?_)
    rintro e w' ⟨rfl, rfl⟩
    go_wp2
    go_ret
    exact ⟨rfl, rfl⟩

namespace R
/-- numbers for holes are right -/
def hsOk (w : Int) (hs : List Int) : Bool := decide (1 ≤ w) && decide (w ≤ 32) && decide (hs.length = 2) && !hs.any fun x => !B.isW w x
def serr (r : Rl) (w : Int) (hs : List Int) : Int := if rvalid r ≠ 0 then rvalid r else if hsOk w hs = true then 0 else 1
theorem hsOk_iff {w : Int} {hs : List Int} (h : hsOk w hs = true) (h0 : ∀ x ∈ hs, 0 ≤ x) : B.isWd w = true ∧ HsOk w hs := by
  unfold hsOk at h
  simp only [Bool.and_eq_true, decide_eq_true_eq, Bool.not_eq_true', List.any_eq_false] at h
  obtain ⟨⟨⟨h1, h2⟩, h3⟩, h4⟩ := h
  exact ⟨B.isWd_iff.2 ⟨h1, h2⟩, h3, fun n hn => ⟨h0 n hn, by simpa using h4 n hn⟩⟩
theorem serr_ok {r : Rl} {w : Int} {hs : List Int} (h : serr r w hs = 0) : ROk r ∧ hsOk w hs = true := by
  unfold serr at h
  split at h
  · rename_i h1; exact absurd h h1
  · rename_i h1
    split at h
    · rename_i h2; exact ⟨rok_of (Decidable.byContradiction h1), h2⟩
    · cases h
end R

set_option maxRecDepth 100000 in
set_option maxHeartbeats 1000000 in
theorem gsized_any {r : R.Rl} {w : Int} {hs : List Int} {nl cl nr cr np cp nh ch : Nat} {AL AR AP Ah : Option Addr} {W : World} (hR : RlAt W r nl nr np AL AR AP) (hH : SlAt (IntR .u32) W Ah nh hs) (h0 : ∀ x ∈ hs, 0 ≤ x) :
    Calls Tryd.prog 66 #[.agg #[.slice AL nl cl, .slice AR nr cr, .slice AP np cp], .int .i64 w, .slice Ah nh ch] W fun e W' => e = .returned (.int .i64 (R.serr r w hs)) ∧ Below W.heap.size W W' := by
  obtain ⟨W1, hW1⟩ : ∃ W1, W1 = (W.alloc (.cells #[.slice AL nl cl, .slice AR nr cr, .slice AP np cp] 25)).alloc (.cells #[.int .i64 w] 3) := ⟨_, rfl⟩
  have hb1 : Below W.heap.size W W1 := by rw [hW1]; exact ((Below.refl _ _).alloc (Nat.le_refl _) _).alloc (by simp) _
  have hr1 : W1.heap[W.heap.size + 1]? = some (.cells #[.int .i64 w] 3 (0, 0)) := by rw [hW1]; exact new_two W _ _
  have c4 : W1.cell? ⟨W.heap.size + 1, 0, none⟩ = some (.int .i64 w) := by rw [cell_of_row _ _ _ _ _ (0, 0) hr1]; rfl
  have HC4 := Lib.hid c4
  have Hb1 := Lib.hid hb1
  have hR1 := hR.below hb1
  have Hval := Lib.hid (gValidate_any r nl cl nr cr np cp AL AR AP W1 hR1.sl hR1.sr hR1.sp hR1.fl hR1.fr)
  have HH := Lib.hid (hH.below (monoInt _) hb1)
  have hlh := hH.len
  have hle := hH.le
  have Hlh := Lib.hid hlh
  have H0 := Lib.hid h0
  have HW1 := Lib.hid hW1
  obtain ⟨e, he⟩ : ∃ e, R.rvalid r = e := ⟨_, rfl⟩
  rw [he] at Hval
  have He := Lib.hid he
  clear hR hH h0 hb1 hR1 hW1 he hr1 hlh c4
  by_cases h0 : e = 0
  rotate_left
  · have q : (e != 0) = true := by simpa using h0
    have Hr := Lib.hid (show R.serr r w hs = e from by unfold R.serr; rw [He.out, if_pos h0])
    clear h0
    go_enter Tryd.func66, Tryd.ntmps66
    go_wp2_with fail
    rw [← HW1.out]
    (with_reducible refine Hval.out.mono ?_)
    rintro e w2 ⟨rfl, hb2⟩
    have Hb2 := Lib.hid (Hb1.out.trans (hb2.mono Hb1.out.size))
    clear hb2
    go_wp2
    go_ret
    exact ⟨ret_int Hr.out.symm, Hb2.out⟩
  subst h0
  have q : ((0 : Int) != 0) = false := rfl
  have Hs := Lib.hid (show R.serr r w hs = if R.hsOk w hs = true then 0 else 1 from by unfold R.serr; rw [He.out]; rfl)
  go_enter Tryd.func66, Tryd.ntmps66
  go_wp2_with fail
  rw [← HW1.out]
  (with_reducible refine Hval.out.mono ?_)
  rintro e w2 ⟨rfl, hb2⟩
  have Hb2 := Lib.hid (Hb1.out.trans (hb2.mono Hb1.out.size))
  have c4 := (hb2.cell (p := ⟨W.heap.size + 1, 0, none⟩) (cell_below HC4.out)).trans HC4.out
  have Hcl := Lib.hid (hasU_any 91 #[.pointer (some ⟨W.heap.size + 1, 0, none⟩)] (fun x => !B.isW w x) Ah nh ch hs w2 (HH.out.below (monoInt _) hb2) (sizedClo_any w hs (W.heap.size + 1) w2 H0.out c4))
  clear hb2
  by_cases h1 : w < 1
  · have q1 : decide (w < 1) = true := by simpa using h1
    have Hr := Lib.hid (show R.serr r w hs = 1 from by rw [Hs.out, if_neg]; unfold R.hsOk; simp; omega)
    clear h1
    go_wp2
    go_ret
    exact ⟨ret_int Hr.out.symm, Hb2.out⟩
  have q1 : decide (w < 1) = false := by simpa using h1
  by_cases h2 : 32 < w
  · have q2 : decide (32 < w) = true := by simpa using h2
    have Hr := Lib.hid (show R.serr r w hs = 1 from by rw [Hs.out, if_neg]; unfold R.hsOk; simp; omega)
    clear h1 h2
    go_wp2
    go_ret
    exact ⟨ret_int Hr.out.symm, Hb2.out⟩
  have q2 : decide (32 < w) = false := by simp; omega
  by_cases h3 : nh = 2
  rotate_left
  · have q3 : ((nh : Int) != 2) = true := by simp; omega
    have Hr := Lib.hid (show R.serr r w hs = 1 from by rw [Hs.out, if_neg]; unfold R.hsOk; rw [Hlh.out]; simp [h3])
    clear h1 h2 h3
    go_wp2
    go_ret
    exact ⟨ret_int Hr.out.symm, Hb2.out⟩
  have q3 : ((nh : Int) != 2) = false := by simp; omega
  obtain ⟨r2, hr2⟩ : ∃ r2, (hs.any fun x => !B.isW w x) = r2 := ⟨_, rfl⟩
  rw [hr2] at Hcl
  have Hr2 := Lib.hid (show R.hsOk w hs = !r2 from by unfold R.hsOk; rw [hr2, Hlh.out, h3]; simp; omega)
  clear h1 h2 h3 hr2
  cases r2
  · have Hr := Lib.hid (show R.serr r w hs = 0 from by rw [Hs.out, Hr2.out]; rfl)
    go_wp2_with fail
    (with_reducible refine Hcl.out.mono ?_)
    rintro e w3 ⟨rfl, rfl⟩
    go_wp2
    go_ret
    exact ⟨ret_int Hr.out.symm, Hb2.out⟩
  · have Hr := Lib.hid (show R.serr r w hs = 1 from by rw [Hs.out, Hr2.out]; rfl)
    go_wp2_with fail
    (with_reducible refine Hcl.out.mono ?_)
    rintro e w3 ⟨rfl, rfl⟩
    go_wp2
    go_ret
    exact ⟨ret_int Hr.out.symm, Hb2.out⟩

/-- the program's Meets -/
def R.mts (r : R.Rl) (w : Int) (hs : List Int) : Bool := if R.serr r w hs = 0 then r.pre.all (R.cond w hs) else false

set_option maxRecDepth 100000 in
set_option maxHeartbeats 1000000 in
theorem gMeets_any {r : R.Rl} {w : Int} {hs : List Int} {nl cl nr cr np cp nh ch : Nat} {AL AR AP Ah : Option Addr} {W : World} (hR : RlAt W r nl nr np AL AR AP) (hH : SlAt (IntR .u32) W Ah nh hs) (h0 : ∀ x ∈ hs, 0 ≤ x) :
    Calls Tryd.prog 29 #[.agg #[.slice AL nl cl, .slice AR nr cr, .slice AP np cp], .int .i64 w, .slice Ah nh ch] W fun e W' => e = .returned (.tuple #[.bool (R.mts r w hs), .int .i64 (R.serr r w hs)]) ∧ Below W.heap.size W W' := by
  obtain ⟨W1, hW1⟩ : ∃ W1, W1 = W.alloc (.cells #[.slice AL nl cl, .slice AR nr cr, .slice AP np cp] 25) := ⟨_, rfl⟩
  have hb1 : Below W.heap.size W W1 := by rw [hW1]; exact (Below.refl _ _).alloc (Nat.le_refl _) _
  have hrow : W1.heap[W.heap.size]? = some (.cells #[.slice AL nl cl, .slice AR nr cr, .slice AP np cp] 25 (0, 0)) := by rw [hW1]; exact heap_alloc_new W _
  have Hrow := Lib.hid hrow
  have Hb1 := Lib.hid hb1
  have HR1 := Lib.hid (hR.below hb1)
  have HH := Lib.hid (hH.below (monoInt _) hb1)
  have Hval := Lib.hid (gsized_any (w := w) (cl := cl) (cr := cr) (cp := cp) (ch := ch) HR1.out HH.out h0)
  have Hlh := Lib.hid hH.len
  have H0 := Lib.hid h0
  have HW1 := Lib.hid hW1
  obtain ⟨e, he⟩ : ∃ e, R.serr r w hs = e := ⟨_, rfl⟩
  rw [he] at Hval ⊢
  have He := Lib.hid he
  clear hR hH h0 hb1 hW1 he hrow
  by_cases h0 : e = 0
  rotate_left
  · have q : (e != 0) = true := by simpa using h0
    have Hm := Lib.hid (show R.mts r w hs = false from by unfold R.mts; rw [He.out, if_neg h0])
    clear h0
    go_enter Tryd.func29, Tryd.ntmps29
    go_wp2_with fail
    rw [← HW1.out]
    (with_reducible refine Hval.out.mono ?_)
    rintro e w2 ⟨rfl, hb2⟩
    have Hb2 := Lib.hid (Hb1.out.trans (hb2.mono Hb1.out.size))
    clear hb2
    go_wp2
    go_ret2
    rw [Hm.out]
    exact ⟨rfl, Hb2.out⟩
  subst h0
  have q : ((0 : Int) != 0) = false := rfl
  obtain ⟨hrok, hhs⟩ := R.serr_ok He.out
  have hho := R.hsOk_iff hhs H0.out
  have hn2 : nh = 2 := by rw [← Hlh.out]; exact hho.2.1
  subst hn2
  have Hmt := Lib.hid (fun X (h : Below W1.heap.size W1 X) => gmeets_any (AL := AL) (AR := AR) (nl := nl) (cl := cl) (nr := nr) (cr := cr) (cp := cp) (ch := ch) (HR1.out.sp.below monoCd h) (HH.out.below (monoInt _) h) hrok.cd hho.1 hho.2)
  obtain ⟨r2, hr2⟩ : ∃ r2, r.pre.all (R.cond w hs) = r2 := ⟨_, rfl⟩
  rw [hr2] at Hmt
  have Hm := Lib.hid (show R.mts r w hs = r2 from by unfold R.mts; rw [He.out, if_pos rfl, hr2])
  clear hrok hhs hho hr2
  go_enter Tryd.func29, Tryd.ntmps29
  go_wp2_with fail
  rw [← HW1.out]
  (with_reducible refine Hval.out.mono ?_)
  rintro e w2 ⟨rfl, hb2⟩
  have Hb2 := Lib.hid hb2
  have hrow2 := (hb2.block _ (Array.getElem?_eq_some_iff.1 Hrow.out).1).trans Hrow.out
  have c0 : w2.cell? ⟨W.heap.size, 0, none⟩ = some (.slice AL nl cl) := by rw [cell_of_row _ _ _ _ _ (0, 0) hrow2]; rfl
  have c1 : w2.cell? ⟨W.heap.size, 1, none⟩ = some (.slice AR nr cr) := by rw [cell_of_row _ _ _ _ _ (0, 0) hrow2]; rfl
  have c2 : w2.cell? ⟨W.heap.size, 2, none⟩ = some (.slice AP np cp) := by rw [cell_of_row _ _ _ _ _ (0, 0) hrow2]; rfl
  clear hb2 hrow2
  go_wp2_with fail
  (with_reducible refine (Hmt.out _ Hb2.out).mono ?_)
  rintro e w3 ⟨rfl, hb3⟩
  have Hb3 := Lib.hid (Hb1.out.trans ((Hb2.out.trans (hb3.mono Hb2.out.size)).mono Hb1.out.size))
  clear hb3 c0 c1 c2
  go_wp2
  go_ret2
  rw [Hm.out]
  exact ⟨rfl, Hb3.out⟩

/-- the sides at a width -/
def R.sds (r : R.Rl) (w : Int) (hs : List Int) : List T.Nd × List T.Nd := if R.serr r w hs = 0 then (R.inst r.left w hs, R.inst r.right w hs) else ([], [])

def SidesPost (W : World) (r : R.Rl) (w : Int) (hs : List Int) (e : Ending) (W' : World) : Prop :=
  ∃ v1 v2, e = .returned (.tuple #[v1, v2, .int .i64 (R.serr r w hs)]) ∧ OwnR (NdF W.heap.size) W.heap.size W' v1 (R.sds r w hs).1 ∧ OwnR (NdF W.heap.size) W.heap.size W' v2 (R.sds r w hs).2 ∧ Below W.heap.size W W'

set_option maxRecDepth 100000 in
set_option maxHeartbeats 1000000 in
theorem gSides_any {r : R.Rl} {w : Int} {hs : List Int} {nl cl nr cr np cp nh ch : Nat} {AL AR AP Ah : Option Addr} {W : World} (hR : RlAt W r nl nr np AL AR AP) (hH : SlAt (IntR .u32) W Ah nh hs) (h0 : ∀ x ∈ hs, 0 ≤ x) (hT : TabAt W) :
    Calls Tryd.prog 31 #[.agg #[.slice AL nl cl, .slice AR nr cr, .slice AP np cp], .int .i64 w, .slice Ah nh ch] W (SidesPost W r w hs) := by
  obtain ⟨W1, hW1⟩ : ∃ W1, W1 = W.alloc (.cells #[.slice AL nl cl, .slice AR nr cr, .slice AP np cp] 25) := ⟨_, rfl⟩
  have hb1 : Below W.heap.size W W1 := by rw [hW1]; exact (Below.refl _ _).alloc (Nat.le_refl _) _
  have hrow : W1.heap[W.heap.size]? = some (.cells #[.slice AL nl cl, .slice AR nr cr, .slice AP np cp] 25 (0, 0)) := by rw [hW1]; exact heap_alloc_new W _
  have Hrow := Lib.hid hrow
  have Hb1 := Lib.hid hb1
  have HR1 := Lib.hid (hR.below hb1)
  have HH := Lib.hid (hH.below (monoInt _) hb1)
  have HT := Lib.hid (hT.below hb1)
  have Hval := Lib.hid (gsized_any (w := w) (cl := cl) (cr := cr) (cp := cp) (ch := ch) HR1.out HH.out h0)
  have Hlh := Lib.hid hH.len
  have H0 := Lib.hid h0
  have HW1 := Lib.hid hW1
  obtain ⟨e, he⟩ : ∃ e, R.serr r w hs = e := ⟨_, rfl⟩
  rw [he] at Hval
  have He := Lib.hid he
  clear hR hH h0 hb1 hW1 he hrow hT
  by_cases h0 : e = 0
  rotate_left
  · have q : (e != 0) = true := by simpa using h0
    have Hm := Lib.hid (show R.sds r w hs = ([], []) from by unfold R.sds; rw [He.out, if_neg h0])
    clear h0
    go_enter Tryd.func31, Tryd.ntmps31
    go_wp2_with fail
    rw [← HW1.out]
    (with_reducible refine Hval.out.mono ?_)
    rintro e w2 ⟨rfl, hb2⟩
    have Hb2 := Lib.hid (Hb1.out.trans (hb2.mono Hb1.out.size))
    clear hb2
    go_wp2
    go_ret3
    unfold SidesPost
    rw [Hm.out, He.out]
    exact ⟨_, _, rfl, OwnR.nil_ _ _ _, OwnR.nil_ _ _ _, Hb2.out⟩
  subst h0
  have q : ((0 : Int) != 0) = false := rfl
  obtain ⟨hrok, hhs⟩ := R.serr_ok He.out
  have hho := R.hsOk_iff hhs H0.out
  have hn2 : nh = 2 := by rw [← Hlh.out]; exact hho.2.1
  subst hn2
  have hll := HR1.out.sl.len
  have hlr := HR1.out.sr.len
  have HL := Lib.hid (fun X (h : Below W1.heap.size W1 X) => gside_any (cp := cl) (ch := ch) (HR1.out.sl.below monoNd h) (HH.out.below (monoInt _) h) hho.1 hho.2 hrok.lp (by have := hrok.llen; omega) (HT.out.below h))
  have HR := Lib.hid (fun X (h : Below W1.heap.size W1 X) => gside_any (cp := cr) (ch := ch) (HR1.out.sr.below monoNd h) (HH.out.below (monoInt _) h) hho.1 hho.2 hrok.rp (by have := hrok.rlen; omega) (HT.out.below h))
  have HS := Lib.hid (show ∀ Y, Below W1.heap.size W1 Y → Y.cell? ⟨W.heap.size, 0, none⟩ = some (.slice AL nl cl) ∧ Y.cell? ⟨W.heap.size, 1, none⟩ = some (.slice AR nr cr) from fun Y hY => by
    have hrow := (hY.block _ (Array.getElem?_eq_some_iff.1 Hrow.out).1).trans Hrow.out
    refine ⟨?_, ?_⟩ <;> (rw [cell_of_row _ _ _ _ _ (0, 0) hrow]; rfl))
  have Hm := Lib.hid (show R.sds r w hs = (R.inst r.left w hs, R.inst r.right w hs) from by unfold R.sds; rw [He.out, if_pos rfl])
  clear hrok hhs hho hll hlr
  go_enter Tryd.func31, Tryd.ntmps31
  go_wp2_with fail
  rw [← HW1.out]
  (with_reducible refine Hval.out.mono ?_)
  rintro e w2 ⟨rfl, hb2⟩
  have Hb2 := Lib.hid hb2
  clear hb2
  go_wp2
  refine wp_region_held_drew (S := fun Y => Y.cell? ⟨W.heap.size, 0, none⟩ = some (.slice AL nl cl) ∧ Y.cell? ⟨W.heap.size, 1, none⟩ = some (.slice AR nr cr)) (by kernel_rfl) (HS.out w2.drew Hb2.out.drew) (fun hHeld => ?_)
  refine wpAnyH_take (i := 0) (oi := _) (v := ?_) rfl (by kernel_rfl) (by kernel_rfl) (by kernel_rfl) (fun _ _ _ h => h) (Or.inl ⟨by rfl, fun Y hY => ?_⟩) hHeld ?_
  rotate_left
  · (go_simp) <;> with_reducible rfl
  try simp only [Act.put, List.setIfInBounds_toArray, List.set_cons_zero, List.set_cons_succ, List.getElem_toArray, List.getElem_cons_succ, List.getElem_cons_zero]
  refine wpAnyH_take (i := 1) (oi := _) (v := ?_) rfl (by kernel_rfl) (by kernel_rfl) (by kernel_rfl) (fun _ _ _ h => h) (Or.inl ⟨by rfl, fun Y hY => ?_⟩) hHeld ?_
  rotate_left
  · obtain ⟨y0, y1⟩ := hY
    (go_simp) <;> with_reducible rfl
  try simp only [Act.put, List.setIfInBounds_toArray, List.set_cons_zero, List.set_cons_succ, List.getElem_toArray, List.getElem_cons_succ, List.getElem_cons_zero]
  refine wpAnyH_take (i := 2) (oi := _) (v := ?_) rfl (by kernel_rfl) (by kernel_rfl) (by kernel_rfl) (fun _ _ _ h => h) (Or.inl ⟨by rfl, fun Y hY => ?_⟩) hHeld ?_
  rotate_left
  · (go_simp) <;> with_reducible rfl
  try simp only [Act.put, List.setIfInBounds_toArray, List.set_cons_zero, List.set_cons_succ, List.getElem_toArray, List.getElem_cons_succ, List.getElem_cons_zero]
  refine wpAnyH_take (i := 3) (oi := _) (v := ?_) rfl (by kernel_rfl) (by kernel_rfl) (by kernel_rfl) (fun _ _ _ h => h) (Or.inl ⟨by rfl, fun Y hY => ?_⟩) hHeld ?_
  rotate_left
  · (go_simp) <;> with_reducible rfl
  try simp only [Act.put, List.setIfInBounds_toArray, List.set_cons_zero, List.set_cons_succ, List.getElem_toArray, List.getElem_cons_succ, List.getElem_cons_zero]
  refine wpAnyH_take (i := 5) (oi := _) (v := ?_) rfl (by kernel_rfl) (by kernel_rfl) (by kernel_rfl) (fun _ _ _ h => h) (Or.inl ⟨by rfl, fun Y hY => ?_⟩) hHeld ?_
  rotate_left
  · (go_simp) <;> with_reducible rfl
  try simp only [Act.put, List.setIfInBounds_toArray, List.set_cons_zero, List.set_cons_succ, List.getElem_toArray, List.getElem_cons_succ, List.getElem_cons_zero]
  refine wpAnyH_take (i := 6) (oi := _) (v := ?_) rfl (by kernel_rfl) (by kernel_rfl) (by kernel_rfl) (fun _ _ _ h => h) (Or.inl ⟨by rfl, fun Y hY => ?_⟩) hHeld ?_
  rotate_left
  · obtain ⟨y0, y1⟩ := hY
    (go_simp) <;> with_reducible rfl
  try simp only [Act.put, List.setIfInBounds_toArray, List.set_cons_zero, List.set_cons_succ, List.getElem_toArray, List.getElem_cons_succ, List.getElem_cons_zero]
  refine wpAnyH_take (i := 7) (oi := _) (v := ?_) rfl (by kernel_rfl) (by kernel_rfl) (by kernel_rfl) (fun _ _ _ h => h) (Or.inl ⟨by rfl, fun Y hY => ?_⟩) hHeld ?_
  rotate_left
  · (go_simp) <;> with_reducible rfl
  try simp only [Act.put, List.setIfInBounds_toArray, List.set_cons_zero, List.set_cons_succ, List.getElem_toArray, List.getElem_cons_succ, List.getElem_cons_zero]
  refine wpAnyH_take (i := 8) (oi := _) (v := ?_) rfl (by kernel_rfl) (by kernel_rfl) (by kernel_rfl) (fun _ _ _ h => h) (Or.inl ⟨by rfl, fun Y hY => ?_⟩) hHeld ?_
  rotate_left
  · (go_simp) <;> with_reducible rfl
  try simp only [Act.put, List.setIfInBounds_toArray, List.set_cons_zero, List.set_cons_succ, List.getElem_toArray, List.getElem_cons_succ, List.getElem_cons_zero]
  refine wpAnyH_ready (rs := [4]) (by kernel_rfl) (by simp) ?_
  refine AllReadyH.cons (o := _) rfl (fun KK hKK => ?_) AllReadyH.nil
  clear hHeld
  go_simp
  (with_reducible refine (HL.out _ Hb2.out.drew).mono ?_)
  rintro e w5 ⟨v5, rfl, hown5, hb5⟩
  have Hown5 := Lib.hid hown5
  have Hb5 := Lib.hid (Hb2.out.drew.trans (hb5.mono Hb2.out.size))
  clear hown5 hb5
  refine hKK.out _ _ (HS.out w5 Hb5.out) (fun hHeld => ?_)
  clear hKK KK
  try simp only [Act.put, List.setIfInBounds_toArray, List.set_cons_zero, List.set_cons_succ, List.getElem_toArray, List.getElem_cons_succ, List.getElem_cons_zero]
  refine wpAnyH_ready (rs := [9]) (by kernel_rfl) (by simp) ?_
  refine AllReadyH.cons (o := _) rfl (fun KK hKK => ?_) AllReadyH.nil
  clear hHeld
  go_simp
  (with_reducible refine (HR.out _ Hb5.out).mono ?_)
  rintro e w6 ⟨v6, rfl, hown6, hb6⟩
  have Hown6 := Lib.hid hown6
  have Hb6 := Lib.hid (Hb5.out.trans (hb6.mono Hb5.out.size))
  have Hown5' := Lib.hid (Hown5.out.below (ndF_rel _) hb6)
  clear hown6 hb6
  refine hKK.out _ _ (HS.out w6 Hb6.out) (fun hHeld => ?_)
  clear hKK KK
  try simp only [Act.put, List.setIfInBounds_toArray, List.set_cons_zero, List.set_cons_succ, List.getElem_toArray, List.getElem_cons_succ, List.getElem_cons_zero]
  refine wpAnyH_take (i := 10) (oi := _) (v := ?_) rfl (by kernel_rfl) (by kernel_rfl) (by kernel_rfl) (fun _ _ _ h => h) (Or.inl ⟨by rfl, fun Y hY => ?_⟩) hHeld ?_
  rotate_left
  · (go_simp) <;> with_reducible rfl
  try simp only [Act.put, List.setIfInBounds_toArray, List.set_cons_zero, List.set_cons_succ, List.getElem_toArray, List.getElem_cons_succ, List.getElem_cons_zero]
  refine wpAnyH_take (i := 11) (oi := _) (v := ?_) rfl (by kernel_rfl) (by kernel_rfl) (by kernel_rfl) (fun _ _ _ h => h) (Or.inl ⟨by rfl, fun Y hY => ?_⟩) hHeld ?_
  rotate_left
  · (go_simp) <;> with_reducible rfl
  try simp only [Act.put, List.setIfInBounds_toArray, List.set_cons_zero, List.set_cons_succ, List.getElem_toArray, List.getElem_cons_succ, List.getElem_cons_zero]
  refine wpAnyH_take (i := 12) (oi := _) (v := ?_) rfl (by kernel_rfl) (by kernel_rfl) (by kernel_rfl) (fun _ _ _ h => h) (Or.inl ⟨by rfl, fun Y hY => ?_⟩) hHeld ?_
  rotate_left
  · (go_simp) <;> with_reducible rfl
  try simp only [Act.put, List.setIfInBounds_toArray, List.set_cons_zero, List.set_cons_succ, List.getElem_toArray, List.getElem_cons_succ, List.getElem_cons_zero]
  refine wpAnyH_done (by kernel_rfl) ?_ _
  have Hw5 := Lib.hid (Hown5'.out.weak (B := W.heap.size) (by have h1 := Hb1.out.size; have h2 := Hb2.out.drew.size; exact Nat.le_trans h1 h2))
  have Hw6 := Lib.hid (Hown6.out.weak (B := W.heap.size) (by have h1 := Hb1.out.size; have h2 := Hb5.out.size; exact Nat.le_trans h1 h2))
  have Hbw := Lib.hid (Hb1.out.trans (Hb6.out.mono Hb1.out.size))
  clear hHeld
  go_wp2
  go_ret3
  unfold SidesPost
  rw [Hm.out, He.out]
  exact ⟨_, _, rfl, Hw5.out, Hw6.out, Hbw.out⟩
end Go.Proofs.YtmebpgggfppmhaaDoor
