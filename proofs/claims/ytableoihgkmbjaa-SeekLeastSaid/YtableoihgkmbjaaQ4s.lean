/- Walk of the program's layer of rows: start. -/
import Derived.Test.YtableoihgkmbjaaQ4
namespace Go.Proofs.Ytableoihgkmbjaa
open Go.RowKit
set_option linter.unusedVariables false

set_option maxRecDepth 100000 in
set_option maxHeartbeats 4000000 in
theorem pstart_any (k w : Nat) (hk : k = 1 ∨ k = 2) (hw : w = 1 ∨ w = 2 ∨ w = 3) (W : World) :
    Calls Try.prog 35 #[.agg #[.int .i64 k, .int .i64 w]] W fun e w' => ∃ A c us, e = .returned (.slice A (k + 2) c) ∧ OwnAt w' 24 1 (.slice A (k + 2) c) (k + 2) us ∧ Elems (ColC W.heap.size) w' us (K.cols k w []) ∧ (∀ g, (Value.slice A (k + 2) c).ownBlock = some g → W.heap.size ≤ g) ∧ Below W.heap.size W w' := by
  have HM := Lib.hid (fun W' => Mask_any w W')
  have hwd : B.isWd w = true := B.isWd_iff.2 (by omega)
  rw [hwd] at HM
  simp only [if_true] at HM
  have HS := Lib.hid (fun W' => psize_any k w hk hw W')
  have HI := Lib.hid (fun i a hi ha W' => pinput_any k w i a hk hw hi ha W')
  obtain ⟨s0, s1, s2, s3⟩ := size_facts hk hw
  have hkk : k ≤ 2 := by omega
  have hcols := K.cols_nil (w := w) hk
  have Hcols := Lib.hid hcols
  clear hcols s0 s1 s2
  obtain ⟨z, hz⟩ : ∃ z, z = B.pw w - 1 := ⟨_, rfl⟩
  rw [← hz] at HM
  have Hz := Lib.hid hz
  clear hz hwd
  have HB0 := Lib.hid (show Below W.heap.size W (W.alloc (.cells #[.int .i64 k, .int .i64 w] 44)) from (Below.refl _ _).alloc (Nat.le_refl _) _)
  have Hrow0 := Lib.hid (heap_alloc_new W (.cells #[.int .i64 k, .int .i64 w] 44))
  have hsz0 : (W.alloc (.cells #[.int .i64 k, .int .i64 w] 44)).heap.size = W.heap.size + 1 := by simp
  have Hsz0 := Lib.hid hsz0; clear hsz0
  obtain ⟨N, hN⟩ : ∃ N, N = K.size k w := ⟨_, rfl⟩
  rw [← hN] at HS s3
  have HN := Lib.hid hN; clear hN
  have Hk := Lib.hid hk
  have Hw := Lib.hid hw
  clear hk hw
  go_enter Try.func35, Try.ntmps35
  go_wp2_with fail
  (with_reducible refine (HM.out _).mono ?_)
  rintro e w' ⟨rfl, rfl⟩
  obtain ⟨W1, hW1⟩ : ∃ W1, W1 = W.alloc (.cells #[.int .i64 k, .int .i64 w] 44) := ⟨_, rfl⟩
  rw [← hW1] at HB0 Hrow0 Hsz0 ⊢
  clear hW1
  have hlt1 : W.heap.size < W1.heap.size := by rw [Hsz0.out]; omega
  have Hc0 := Lib.hid (fun (X : World) (h : Below W1.heap.size W1 X) => (show X.cell? ⟨W.heap.size, 0, none⟩ = some (.int .i64 (k : Int)) from (h.cell (p := ⟨W.heap.size, 0, none⟩) hlt1).trans (by rw [cell_of_row _ _ _ _ _ (0, 0) Hrow0.out]; rfl)))
  have Hc1 := Lib.hid (fun (X : World) (h : Below W1.heap.size W1 X) => (show X.cell? ⟨W.heap.size, 1, none⟩ = some (.int .i64 (w : Int)) from (h.cell (p := ⟨W.heap.size, 1, none⟩) hlt1).trans (by rw [cell_of_row _ _ _ _ _ (0, 0) Hrow0.out]; rfl)))
  have Hlt1 := Lib.hid hlt1; clear hlt1
  have hc0 := Hc0.out W1 (Below.refl _ _)
  have hc1 := Hc1.out W1 (Below.refl _ _)
  go_wp2
  clear hc0 hc1
  go_loopw [5, 17] (fun v i wr => ∃ (j : Nat), j ≤ k ∧ i = .int .i64 (j : Int) ∧ (∃ us, OwnAt wr 24 1 v j us ∧ Elems (ColC W1.heap.size) wr us ((List.range j).map (incol k w))) ∧ (∀ g, v.ownBlock = some g → W1.heap.size ≤ g) ∧ Below W1.heap.size W1 wr) (fun _ i _ => k - (intOf i).toNat)
  case atStart => exact ⟨0, Nat.zero_le _, rfl, ⟨[], OwnAt.nil_ .., Elems.nil_⟩, fun g h => by simp [Value.ownBlock] at h, Below.refl _ _⟩
  case round =>
    obtain ⟨wo, rfl⟩ : ∃ x, x = wr := ⟨wr, rfl⟩
    obtain ⟨j, hj, rfl, ⟨us, hown, hel⟩, hge, hbw⟩ := hrel
    have Hown := Lib.hid hown; clear hown
    have Hel := Lib.hid hel; clear hel
    have Hge := Lib.hid hge; clear hge
    have Hbw := Lib.hid hbw; clear hbw
    have hc0 := Hc0.out _ Hbw.out
    have hc1 := Hc1.out _ Hbw.out
    by_cases hlt : j < k
    · go_wp2_with fail
      (with_reducible refine (HS.out _).mono ?_)
      rintro e w2 ⟨rfl, hb2⟩
      have Hb2 := Lib.hid hb2; clear hb2
      clear hc0 hc1
      have hmk := fun (W' : World) => run_make_n (P := Try.prog) 24 40 (.int .u32 0) 4 Try.underlying24 infoU32 rfl .i64 .i64 N (N : Int) rfl (by omega) (by omega) W'
      go_wp2
      clear hmk
      go_loopw [25] (fun i wf => ∃ (a : Nat), a ≤ N ∧ i = .int .i64 (a : Int) ∧ Hid (wf.heap[w2.heap.size]? = some (.cells (fillC ((incol k w j).take a) N).toArray 40 (0, 0)) ∧ Below w2.heap.size w2 wf)) (fun i _ => N - (intOf i).toNat)
      case atStart => exact ⟨0, Nat.zero_le _, rfl, by rw [List.take_zero, fillC_nil]; exact heap_alloc_new _ _, (Below.refl _ _).alloc (Nat.le_refl _) _⟩
      case round =>
        obtain ⟨wf, rfl⟩ : ∃ x, x = wr := ⟨wr, rfl⟩
        obtain ⟨a, ha, rfl, HF⟩ := hrel
        by_cases hla : a < N
        · have HW := Lib.hid (show Below W1.heap.size W1 wf from (Hbw.out.trans (Hb2.out.mono Hbw.out.size)).trans (HF.out.2.mono (Nat.le_trans Hbw.out.size Hb2.out.size)))
          have hc0 := Hc0.out _ HW.out
          have hc1 := Hc1.out _ HW.out
          have Hin := Lib.hid (HI.out j a hlt (by rw [← HN.out]; exact hla) wf)
          have Htl := Lib.hid (take_incol_len (k := k) (w := w) (i := j) (a := a) (by rw [← HN.out]; exact ha))
          have Hts := Lib.hid (take_incol (k := k) (w := w) (i := j) (a := a) (by rw [← HN.out]; exact hla))
          go_wp2_with fail
          (with_reducible refine Hin.out.mono ?_)
          rintro e w3 ⟨rfl, hb3⟩
          clear hc0 hc1
          have hg3 := (hb3.block w2.heap.size (Array.getElem?_eq_some_iff.1 HF.out.1).1).trans HF.out.1
          obtain ⟨hs3, hf3⟩ := fill_cell hg3 (by rw [Htl.out]; exact ha) hla
          obtain ⟨v0, hv0⟩ := Option.isSome_iff_exists.1 hs3
          have Hg3 := Lib.hid hg3
          have Hb3 := Lib.hid hb3
          clear hs3 hb3 hg3
          go_wp2
          go_roundw
          case rel => exact ⟨a + 1, by omega, by go_num, by rw [Hts.out]; exact fill_step Hg3.out Htl.out hla, (HF.out.2.trans (Hb3.out.mono HF.out.2.size)).setCell (by exact Nat.le_refl _) _⟩
          case measure => simp [intOf]; omega
        · have hxf : wf.heap[w2.heap.size]? = some (.cells ((incol k w j).map (Value.int .u32)).toArray 40 (0, 0)) := by
            have := HF.out.1
            rwa [List.take_of_length_le (by rw [incol_len, ← HN.out]; omega), fillC_full (by rw [incol_len, ← HN.out])] at this
          have Hxf := Lib.hid hxf; clear hxf
          have hle12 := Nat.le_trans Hbw.out.size Hb2.out.size
          have Hbf := Lib.hid (Hb2.out.trans (HF.out.2.mono Hb2.out.size))
          have Hbwf := Lib.hid (Hbw.out.trans (Hbf.out.mono Hbw.out.size))
          have Hownf := Lib.hid (Hown.out.below Hbf.out Hown.out.lt)
          have Helf := Lib.hid (Hel.out.map_ fun u x hu => ColC.mono hu Hbf.out)
          have Hle12 := Lib.hid hle12; clear hle12
          have Hlen := Lib.hid (incol_len k w j)
          go_wp2_with (at_builtin; refine wpList_append_one' rfl (.tmp 36) (.tmp 38) 50 rfl 24 (.slice none 0 0) 24 Try.underlying50 infoSlU rfl _ j us rfl Hownf.out (.slice (some ⟨w2.heap.size, 0, none⟩) N N) (by rfl) 24 wf.heap.size rfl rfl (by omega) (by omega) ?_; intro v' w4 hown' hgr hat2)
          have hel' : Elems (ColC W1.heap.size) w4 us ((List.range j).map (incol k w)) := Helf.out.map_ fun u x hu => (ColC.mono hu ((Below.refl _ _).alloc (Nat.le_refl _) _)).grown hgr (Hownf.out.alloc _).typed (by decide)
          have hnew : ColC W1.heap.size w4 (.slice (some ⟨w2.heap.size, 0, none⟩) N N) (incol k w j) := by
            have h0 : ColC W1.heap.size wf (.slice (some ⟨w2.heap.size, 0, none⟩) N N) (incol k w j) := ⟨_, by rw [Hlen.out, ← HN.out], Hle12.out, Hxf.out⟩
            exact (h0.mono ((Below.refl _ _).alloc (Nat.le_refl _) _)).grown hgr (Hownf.out.alloc _).typed (by decide)
          obtain ⟨hb4, hge4⟩ := below_append Hbwf.out Hbwf.out.size Hge.out hgr hat2
          go_roundw
          case rel => exact ⟨j + 1, by omega, by go_num, ⟨us ++ [.slice (some ⟨w2.heap.size, 0, none⟩) N N], hown', by rw [range_map_succ]; exact hel'.snoc hnew⟩, hge4, hb4⟩
          case measure => simp [intOf]; omega
    · have hjk : j = k := by omega
      subst hjk
      have HRep := Lib.hid (fun (x : Int) (g : Nat) (X : World) (hg : X.heap[g]? = some (.cells #[.int .u32 x] 40 (0, 0))) => prepN_any x Hk.out Hw.out HN.out g X hg)
      have hbel : Bel W1 wo := Hbw.out
      have hj2 : j + 2 ≤ 1000000000 := by omega
      have hown := Hown.out
      clear HI HM
      go_wp2_with fail
      go_region_held3 (fun w' => w'.cell? ⟨W.heap.size, 0, none⟩ = some (.int .i64 (j : Int)) ∧ w'.cell? ⟨W.heap.size, 1, none⟩ = some (.int .i64 (w : Int)))
        (first | go_keep | exact ⟨Hc0.out _ (show Bel W1 _ by ((repeat (first | assumption | with_reducible refine Bel.alloc ?_ _ | with_reducible refine Bel.drew ?_ | with_reducible refine Bel.step ?_ (by assumption) | fail)); done)), Hc1.out _ (show Bel W1 _ by ((repeat (first | assumption | with_reducible refine Bel.alloc ?_ _ | with_reducible refine Bel.drew ?_ | with_reducible refine Bel.step ?_ (by assumption) | fail)); done))⟩)
        (first
          | (go_at_call 42; with_reducible refine (HS.out _).mono ?_; rintro e wA ⟨rfl, hbA⟩; have HbA := Lib.hid hbA; clear hbA)
          | (go_at_call 50; (with_reducible refine Calls.mono (HRep.out 1 _ _ ?_) ?_); (focus ((repeat (first | assumption | with_reducible exact heap_alloc_new _ _ | with_reducible exact new_drew _ _ | with_reducible exact new_two _ _ _ | with_reducible refine row_drew ?_ | with_reducible refine row_alloc ?_ _ | with_reducible refine row_step (by assumption) ?_ | fail)); done)); rintro e wB ⟨rfl, hrB, hbB⟩; (try simp only [World.size_alloc] at hrB); have HbB := Lib.hid hbB; have HrB := Lib.hid hrB; clear hbB hrB)
          | (go_at_call 50; (with_reducible refine Calls.mono (HRep.out z _ _ ?_) ?_); (focus ((repeat (first | assumption | with_reducible exact heap_alloc_new _ _ | with_reducible exact new_drew _ _ | with_reducible exact new_two _ _ _ | with_reducible refine row_drew ?_ | with_reducible refine row_alloc ?_ _ | with_reducible refine row_step (by assumption) ?_ | fail)); done)); rintro e wB ⟨rfl, hrB, hbB⟩; (try simp only [World.size_alloc] at hrB); have HbB := Lib.hid hbB; have HrB := Lib.hid hrB; clear hbB hrB)
          | (refine step_append_src _ (by rfl) (.tmp 41) (.tmp 51) 50 (by rfl) 24 (.slice none 0 0) 1 24 Try.underlying50 infoSlU rfl pos1 _ j us (by rfl) ?_ (some ⟨_, 0, none⟩) 2 2 [.slice (some ⟨_, 0, none⟩) N N, .slice (some ⟨_, 0, none⟩) N N] (by rfl) rfl (src_block (cs := #[_, _]) (heap_alloc_new _ _)) (one_sl2 _ _ _) hj2 le64 ?_; (focus ((repeat (first | assumption | with_reducible refine own_drew ?_ | with_reducible refine OwnAt.alloc ?_ _ | with_reducible refine own_step (by assumption) ?_ | fail)); done)); intro v9 w9 hown9 hgr9 hat9; have hbel9 : Bel W1 w9 := (by refine bel_app ?_ hgr9 Hge.out; ((repeat (first | assumption | with_reducible refine Bel.alloc ?_ _ | with_reducible refine Bel.drew ?_ | with_reducible refine Bel.step ?_ (by assumption) | fail)); done)))
          | fail)
      all_goals
        obtain ⟨A9, c9, hv9⟩ := OwnAt.form hown9
        subst hv9
        go_wp2
        go_ret
        refine ⟨A9, c9, _, rfl, hown9, ?_, fun g hg => Nat.le_trans (Nat.le_of_lt Hlt1.out) (app_ge ?_ Hge.out hat9 g hg), HB0.out.trans (hbel9.mono HB0.out.size)⟩
        · rw [Hcols.out, ← HN.out, ← Hz.out]
          have hel0 := Hel.out
          rw [show (incol j w) = (fun i => (List.range N).map fun a => (K.inp j w a).getD i 0) from by rw [HN.out]; rfl] at hel0
          refine Elems.map_ (R := ColC W1.heap.size) (start_end (x1 := 1) (x2 := z) ?_ ?_ ?_ ?_ ?_ hgr9 (OwnAt.typed (s := 1) (v := u5) (n := j) (xs := us) ?_)) (fun u x hu => hu.less (Nat.le_of_lt Hlt1.out))
          · (repeat (first | assumption | with_reducible refine elC_drew ?_ | with_reducible refine elC_alloc ?_ _ | with_reducible refine elC_step (by assumption) ?_ | fail))
          · (repeat (first | assumption | with_reducible exact heap_alloc_new _ _ | with_reducible exact new_drew _ _ | with_reducible exact new_two _ _ _ | with_reducible refine row_drew ?_ | with_reducible refine row_alloc ?_ _ | with_reducible refine row_step (by assumption) ?_ | fail))
          · (repeat (first | assumption | with_reducible exact heap_alloc_new _ _ | with_reducible exact new_drew _ _ | with_reducible exact new_two _ _ _ | with_reducible refine row_drew ?_ | with_reducible refine row_alloc ?_ _ | with_reducible refine row_step (by assumption) ?_ | fail))
          · first | (refine bel_size ?_; (repeat (first | assumption | with_reducible refine Bel.alloc ?_ _ | with_reducible refine Bel.drew ?_ | with_reducible refine Bel.step ?_ (by assumption) | fail)); done) | (refine bel_size1 ?_; (repeat (first | assumption | with_reducible refine Bel.alloc ?_ _ | with_reducible refine Bel.drew ?_ | with_reducible refine Bel.step ?_ (by assumption) | fail)); done) | (refine bel_size2 ?_; (repeat (first | assumption | with_reducible refine Bel.alloc ?_ _ | with_reducible refine Bel.drew ?_ | with_reducible refine Bel.step ?_ (by assumption) | fail)); done)
          · first | (refine bel_size ?_; (repeat (first | assumption | with_reducible refine Bel.alloc ?_ _ | with_reducible refine Bel.drew ?_ | with_reducible refine Bel.step ?_ (by assumption) | fail)); done) | (refine bel_size1 ?_; (repeat (first | assumption | with_reducible refine Bel.alloc ?_ _ | with_reducible refine Bel.drew ?_ | with_reducible refine Bel.step ?_ (by assumption) | fail)); done) | (refine bel_size2 ?_; (repeat (first | assumption | with_reducible refine Bel.alloc ?_ _ | with_reducible refine Bel.drew ?_ | with_reducible refine Bel.step ?_ (by assumption) | fail)); done)
          · (repeat (first | assumption | with_reducible refine own_drew ?_ | with_reducible refine OwnAt.alloc ?_ _ | with_reducible refine own_step (by assumption) ?_ | fail))
        · (repeat (first | assumption | with_reducible refine Bel.alloc ?_ _ | with_reducible refine Bel.drew ?_ | with_reducible refine Bel.step ?_ (by assumption) | fail))
end Go.Proofs.Ytableoihgkmbjaa
