/- Walks of the reference: what follows by unit propagation. -/
import Derived.Test.YtceelipcclfdmaaW7
namespace Go.Proofs.Ytceelipcclfdmaa
open Go.RowKit

theorem Try.infoInt : (Try.prog.info? 3).map (fun i => (i.zero, i.size, i.bytes)) = some (some (.int .i64 0), 1, 8) := by kernel_rfl

def SomeUnits (w : World) (cs : List (List Int)) (given : List Int) (n : Nat) (e : Ending) (w' : World) : Prop :=
  ∃ B O of conf, e = .returned (.pointer (some ⟨B, 0, none⟩)) ∧ StAt w' B O n of conf ∧ Below w.heap.size w w' ∧ S.UnitsPost cs given n of conf

theorem StAt.start (w : World) (n : Nat) : StAt ((w.alloc (.cells (Array.replicate (n + 1) (.int .i64 0)) 3)).alloc (.cells #[.slice (some ⟨w.heap.size, 0, none⟩) (n + 1) (n + 1), .bool false] 69)) (w.heap.size + 1) w.heap.size n (List.replicate (n + 1) 0) false := by
  refine ⟨?_, ?_, by simp, by omega⟩
  · have h := Go.heap_alloc_new (w.alloc (.cells (Array.replicate (n + 1) (.int .i64 0)) 3)) (.cells #[.slice (some ⟨w.heap.size, 0, none⟩) (n + 1) (n + 1), .bool false] 69)
    simpa using h
  · rw [Below.heap_alloc _ _ _ (by simp), Go.heap_alloc_new]
    simp

set_option maxHeartbeats 2000000 in
theorem units_any (n : Nat) (A D : Option Addr) (m c p d : Nat) (cs : List (List Int)) (given : List Int) (w : World) (hA : SlAt (SlR (IntR .i64)) w A m cs) (hD : SlAt (IntR .i64) w D p given) (hcs : cs.all (S.isClause n) = true) (hg : S.isClause n given = true) (hn : n ≤ 4000) :
    Calls Try.prog 37 #[.int .i64 n, .slice A m c, .slice D p d] w (SomeUnits w cs given n) := by
  have hl := hA.le
  have hpl := hD.le
  have HA := Lib.hid hA; clear hA
  have HD := Lib.hid hD; clear hD
  have HC := Lib.hid hcs; clear hcs
  have HG := Lib.hid hg; clear hg
  have hmk := fun W => run_make_n (P := Try.prog) 23 3 (.int .i64 0) 8 Try.underlying23 Try.infoInt rfl .i64 .i64 (n + 1) ((n : Int) + 1) (by omega) (by omega) (by omega) W
  obtain ⟨W0, hW0⟩ : ∃ W0, W0 = ((w.alloc (.cells (Array.replicate (n + 1) (.int .i64 0)) 3)).alloc (.cells #[.slice (some ⟨w.heap.size, 0, none⟩) (n + 1) (n + 1), .bool false] 69)) := ⟨_, rfl⟩
  have hst0 := StAt.start w n
  have hb0 : Below w.heap.size w W0 := by rw [hW0]; exact ((Below.refl _ _).alloc (Nat.le_refl _) _).alloc (by simp) _
  rw [← hW0] at hst0
  have HW0 := Lib.hid hW0; clear hW0
  have Hst0 := Lib.hid hst0; clear hst0
  go_enter Try.func37, Try.ntmps37
  go_wp2
  rw [← HW0.out]
  clear hmk
  go_loopg [8] (p + 1) (fun g i wr => ∃ k of conf, k ≤ p ∧ i = .int .i64 (k : Nat) ∧ g + k = p + 1 ∧ StAt wr (w.heap.size + 1) w.heap.size n of conf ∧ Below w.heap.size w wr ∧ S.GivenTo cs given n k of conf)
  case atStart => exact ⟨0, _, _, Nat.zero_le _, rfl, rfl, Hst0.out, hb0, S.inv_start cs given n, .inr (fun l hl => by simp at hl)⟩
  case round =>
    obtain ⟨k, of, conf, hk, rfl, hgk, hst, hbw, hgv⟩ := hrel
    have Hst := Lib.hid hst; clear hst
    have Hgv := Lib.hid hgv; clear hgv
    have Hgk := Lib.hid hgk; clear hgk
    by_cases hlt : k < p
    · obtain ⟨x, b, off, u, hx, rfl, _, h1, rfl⟩ := (HD.out.below (monoInt _) hbw).at_ hlt
      have con := take_any _ _ n of conf x wr Hst.out Hgv.out.1.wf (lit_at HG.out hx) hn w.heap.size (by omega) (Nat.le_refl _)
      have Hcon := Lib.hid con; clear con
      have Hx := Lib.hid hx; clear hx
      go_wp2_with fail
      refine Hcon.out.mono ?_
      rintro e w1 ⟨rfl, hb1, hpost⟩
      have HP := Lib.hid hpost; clear hpost
      go_wp2
      go_roundg (gk - 1)
      case measure => have := Hgk.out; omega
      case rel =>
        have := Hgk.out
        rcases HP.out with ⟨hv, hs1⟩ | ⟨hv, hs1⟩
        · exact ⟨k + 1, of, true, by omega, by go_num, by omega, hs1, hbw.trans hb1, Hgv.out.clash HG.out Hx.out hv⟩
        · exact ⟨k + 1, _, conf, by omega, by go_num, by omega, hs1, hbw.trans hb1, Hgv.out.put HG.out Hx.out hv⟩
    · have hhead : S.Head cs given n of conf := by
        have h1 := Hgv.out.2
        rw [take_all HD.out.len (by omega)] at h1
        exact ⟨Hgv.out.1, h1⟩
      have Hhead := Lib.hid hhead; clear hhead Hgv
      go_wp2
      go_loopg [9] (S.mu of true conf) (fun g ch wr => ∃ of conf b, ch = .bool b ∧ g = S.mu of b conf ∧ StAt wr (w.heap.size + 1) w.heap.size n of conf ∧ Below w.heap.size w wr ∧ S.Head cs given n of conf ∧ (b = true ∨ conf = true ∨ ∀ c ∈ cs, S.Fine (S.tro of) c))
      case atStart => exact ⟨of, conf, true, rfl, rfl, Hst.out, hbw, Hhead.out, .inl rfl⟩
      case round =>
        clear Hst Hhead hbw
        obtain ⟨of, conf, b, rfl, hgk, hst, hbw, hhead, hb⟩ := hrel
        have Hst := Lib.hid hst; clear hst
        have Hhead := Lib.hid hhead; clear hhead
        have Hgk2 := Lib.hid hgk; clear hgk
        have Hb := Lib.hid hb; clear hb
        have h1 := Hst.out.c1
        by_cases hgo : b = true ∧ conf = false
        case neg =>
          have fin : (b = false ∨ conf = true) := by cases b <;> cases conf <;> simp_all
          have done : S.UnitsPost cs given n of conf := Hhead.out.post HC.out HG.out (by
            rcases fin with rfl | rfl
            · exact Hb.out.resolve_left (by simp)
            · exact .inl rfl)
          have Hdone := Lib.hid done; clear done
          clear hgo
          cases b
          · go_wp2
            go_ret
            exact ⟨_, _, of, conf, rfl, Hst.out, hbw, Hdone.out⟩
          · obtain rfl : conf = true := by simpa using fin
            go_wp2
            go_ret
            exact ⟨_, _, of, true, rfl, Hst.out, hbw, Hdone.out⟩
        obtain ⟨rfl, rfl⟩ := hgo
        go_wp2
        go_loopg [9, 10] (m + 1) (fun g ch i wr => ∃ k of1 conf1 b, k ≤ m ∧ i = .int .i64 (k : Nat) ∧ ch = .bool b ∧ g + k = m + 1 ∧ StAt wr (w.heap.size + 1) w.heap.size n of1 conf1 ∧ Below w.heap.size w wr ∧ S.Round cs given n of k of1 conf1 b)
        case atStart => exact ⟨0, of, false, false, Nat.zero_le _, rfl, rfl, rfl, Hst.out, hbw, Hhead.out, Nat.le_refl _, fun _ => ⟨rfl, rfl, fun c hc => by simp at hc⟩, fun h => by cases h⟩
        case round =>
          clear h1 Hst hbw
          obtain ⟨k, of1, conf1, b, hk, rfl, rfl, hgk, hst, hbw, hround⟩ := hrel
          have Hst := Lib.hid hst; clear hst
          have Hround := Lib.hid hround; clear hround
          have Hgk3 := Lib.hid hgk; clear hgk
          have h1 := Hst.out.c1
          by_cases hlt : k < m
          · cases conf1
            · obtain ⟨x, b', off, u, hx, rfl, _, h2, A1, c1, rfl, s1⟩ := (HA.out.below (monoSl (monoInt _)) hbw).at_ hlt
              have con := look_any _ _ n of1 false A1 x.length c1 x wr Hst.out Hround.out.1.1.wf s1 (clause_at HC.out hx) hn w.heap.size (by omega) (Nat.le_refl _)
              clear s1
              have Hcon := Lib.hid con; clear con
              have Hx := Lib.hid hx; clear hx
              go_wp2_with fail
              refine Hcon.out.mono ?_
              rintro e w1 ⟨b2, of2, conf2, rfl, hs2, hb2, hpost⟩
              have HP := Lib.hid hpost; clear hpost
              have Hs2 := Lib.hid hs2; clear hs2
              have hstep := Hround.out.step Hx.out HC.out HG.out HP.out
              have Hstep := Lib.hid hstep; clear hstep
              cases b2 <;> cases b
              all_goals
                go_wp2
                go_roundg (gk - 1)
                case measure => have := Hgk3.out; omega
                case rel =>
                  have := Hgk3.out
                  exact ⟨k + 1, of2, conf2, _, by omega, by go_num, rfl, by omega, Hs2.out, hbw.trans hb2, Hstep.out⟩
            · go_wp2
              go_roundg (S.mu of1 b true)
              case measure =>
                rw [Hgk2.out]
                have := Hround.out.2.1
                unfold S.mu
                cases b <;> simp <;> omega
              case rel => exact ⟨of1, true, b, rfl, rfl, Hst.out, hbw, Hround.out.1, .inr (.inl rfl)⟩
          · have hall : b = true ∨ conf1 = true ∨ ∀ c ∈ cs, S.Fine (S.tro of1) c := by
              cases b
              · obtain ⟨_, _, h3⟩ := Hround.out.2.2.1 rfl
                rw [take_all HA.out.len (by omega)] at h3
                exact .inr (.inr h3)
              · exact .inl rfl
            have Hall := Lib.hid hall; clear hall
            go_wp2
            go_roundg (S.mu of1 b conf1)
            case measure =>
              rw [Hgk2.out]
              have h3 := Hround.out.2.1
              have h4 := Hround.out.2.2.1
              have h5 := Hround.out.2.2.2
              unfold S.mu
              cases b <;> cases conf1 <;> simp_all <;> omega
            case rel => exact ⟨of1, conf1, b, rfl, rfl, Hst.out, hbw, Hround.out.1, Hall.out⟩
end Go.Proofs.Ytceelipcclfdmaa
