/- Walks of the program: unit propagation. -/
import Derived.Test.YtceelipcclfdmaaW23
namespace Go.Proofs.Ytceelipcclfdmaa
open Go.RowKit Go.Maps

theorem TrAt.start (w : World) : TrAt ((w.alloc (.map #[] 0)).alloc (.cells #[.map (some w.heap.size), .slice none 0 0] 63)) w.heap.size (w.heap.size + 1) w.heap.size [] (.slice none 0 0) [] := by
  refine ⟨?_, ?_, OwnAt.nil_ _ _ _, by omega, by omega, fun g hg => (by simp [Value.ownBlock] at hg)⟩
  · have h := Go.heap_alloc_new (w.alloc (.map #[] 0)) (.cells #[.map (some w.heap.size), .slice none 0 0] 63)
    simpa using h
  · exact (MapAt.made (R := BoolK) w).keep (Below.heap_alloc _ _ _ (by simp)) (fun _ _ _ h => h)

theorem BkAt.clauses {w w0 : World} {B0 Bk Mw : Nat} {cv : Value} {us : List Value} {cs : List (List Int)} {lw : List (Int × List Int)} {blk : Int → Option Nat} {N : Nat} (h : BkAt w w0 B0 Bk Mw cv us cs lw blk N) (hb : Below w0.heap.size w0 w) :
    ∃ A c, cv = .slice A cs.length c ∧ SlAt (SlR (IntR .i64)) w A cs.length cs := by
  obtain ⟨A, c, rfl⟩ := h.own.form
  exact ⟨A, c, rfl, h.own.slElems (monoSl (monoInt _)) hb h.rows⟩

theorem TrAt.pop {w : World} {B0 T M : Nat} {l : List (Int × Bool)} {qv v' : Value} {x : Int} {r : List Int} (h : TrAt w B0 T M l qv (x :: r)) (hown : OwnAt w 3 1 v' r.length (r.map (Value.int .i64))) (hb : v'.ownBlock = qv.ownBlock) :
    TrAt (w.setCell ⟨T, 1, none⟩ v') B0 T M l v' r := by
  refine ⟨by rw [heap_setCell_same w T 1 _ _ _ h.st]; rfl, h.map_.keep (Below.heap_setCell w _ _ M h.neM.symm) (fun _ _ _ h => h), hown.setCell (p := ⟨T, 1, none⟩) (by rw [hb]; exact h.qT) v', h.bT, h.bM, by rw [hb]; exact h.bq⟩

theorem mem_drop_cases {α : Type} {xs : List α} {j : Nat} {y z : α} (h : xs[j]? = some y) (hz : z ∈ xs.drop j) : z = y ∨ z ∈ xs.drop (j + 1) := by
  obtain ⟨hj, he⟩ := List.getElem?_eq_some_iff.1 h
  rw [List.drop_eq_getElem_cons hj, List.mem_cons] at hz
  rcases hz with hz | hz
  · exact .inl (hz.trans he)
  · exact .inr hz

def SomeProp (w : World) (cs : List (List Int)) (given : List Int) (e : Ending) (w' : World) : Prop :=
  Below w.heap.size w w' ∧ ((e = .returned (.tuple #[.pointer none, .bool false]) ∧ S.Incons cs given) ∨
    ∃ T M l qv q, e = .returned (.tuple #[.pointer (some ⟨T, 0, none⟩), .bool true]) ∧ TrAt w' w.heap.size T M l qv q ∧ ¬ S.Incons cs given ∧ ∀ x, trl l x = true ↔ S.Der cs given x)

set_option maxRecDepth 100000 in
set_option maxHeartbeats 4000000 in
theorem propagate_any (w0 : World) (B0 Bk Mw : Nat) (cv : Value) (us : List Value) (cs : List (List Int)) (lw : List (Int × List Int)) (blk : Int → Option Nat) (N n : Nat) (A : Option Addr) (m d : Nat) (given : List Int) (w : World)
    (h : BkAt w w0 B0 Bk Mw cv us cs lw blk N) (hidx : Idx cs lw) (hb0 : Below w0.heap.size w0 w) (hA : SlAt (IntR .i64) w A m given) (hg : S.isClause n given = true) (hc : cs.all (S.isClause n) = true) (hn : n ≤ 4000) :
    Calls Try.prog 34 #[.pointer (some ⟨Bk, 0, none⟩), .slice A m d] w (SomeProp w cs given) := by
  have hl := hA.le
  have HA := Lib.hid hA; clear hA
  have H := Lib.hid h; clear h
  have HC := Lib.hid hc; clear hc
  have HG := Lib.hid hg; clear hg
  have HI := Lib.hid hidx; clear hidx
  have HB0 := Lib.hid hb0; clear hb0
  have HS := Lib.hid (TrAt.start w)
  have HB := Lib.hid (show Below w.heap.size w ((w.alloc (.map #[] 0)).alloc (.cells #[.map (some w.heap.size), .slice none 0 0] 63)) from ((Below.refl _ _).alloc (Nat.le_refl _) _).alloc (by simp) _)
  have hmk := fun W => run_makeMap_any (P := Try.prog) Try.underlying61 W
  have hmf : ∀ (fn : Fn) (first cap : Array Value) (w : World), (Instr.makeFunc fn first cap).run Try.prog w = .ok (.func fn first cap) w := fun _ _ _ _ => rfl
  go_enter Try.func34, Try.ntmps34
  go_wp2
  clear hmk hmf
  go_loopg [22] (m + 1) (fun g i wr => ∃ (k : Nat) (l : List (Int × Bool)) (qv : Value) (q : List Int), k ≤ m ∧ i = .int .i64 (k : Int) ∧ g + k = m + 1 ∧ TrAt wr w.heap.size (w.heap.size + 1) w.heap.size l qv q ∧ S.Known cs given n k l q ∧ Below w.heap.size w wr)
  case atStart => exact ⟨0, [], _, [], Nat.zero_le _, rfl, rfl, HS.out, S.known_start cs given n, HB.out⟩
  case round =>
    obtain ⟨k, l, qv, q, hk, rfl, hgk, htr, hkn, hbw⟩ := hrel
    have Hgk := Lib.hid hgk; clear hgk
    have Htr := Lib.hid htr; clear htr
    have Hkn := Lib.hid hkn; clear hkn
    by_cases hlt : k < m
    · obtain ⟨x, b, off, u, hx, rfl, _, h1, rfl⟩ := (HA.out.below (monoInt _) hbw).at_ hlt
      obtain ⟨hx1, hx2, hx3⟩ := isLit_wf ⟨by omega, by omega⟩ (lit_at HG.out hx)
      have con := ptake_any w.heap.size (w.heap.size + 1) w.heap.size l qv q x wr Htr.out (by omega) (by have := Hkn.out.mass; omega)
      have Hcon := Lib.hid con; clear con hx3
      have Hx := Lib.hid hx; clear hx
      go_wp2_with fail
      refine Hcon.out.mono ?_
      rintro e w1 ⟨l', qv', q', rfl, htr1, hb1, hpost⟩
      have Htr1 := Lib.hid htr1; clear htr1
      have hpost' := Hkn.out.take HG.out Hx.out hpost
      clear hpost
      rcases hpost' with ⟨ht, hinc⟩ | ⟨ht, hkn1⟩
      · rw [ht]
        have Hinc := Lib.hid hinc; clear hinc ht
        go_wp2
        go_ret2
        exact ⟨hbw.trans hb1, .inl ⟨rfl, Hinc.out⟩⟩
      · rw [ht]
        have Hkn1 := Lib.hid hkn1; clear hkn1 ht
        go_wp2
        go_roundg (gk - 1)
        case measure => have := Hgk.out; omega
        case rel => have := Hgk.out; exact ⟨k + 1, l', qv', q', by omega, by go_num, by omega, Htr1.out, Hkn1.out, hbw.trans hb1⟩
    · obtain rfl : k = m := by omega
      clear Hgk HS HB
      have hbk := (H.out.below hbw)
      obtain ⟨AC, cc, hcv, hcl⟩ := hbk.clauses (HB0.out.trans (hbw.mono HB0.out.size))
      subst hcv
      have hc0 := hbk.c0
      clear hbk hcl
      go_wp2
      go_loopg [36] (cs.length + 1) (fun g i wr => ∃ (j : Nat) (l : List (Int × Bool)) (qv : Value) (q : List Int), j ≤ cs.length ∧ i = .int .i64 (j : Int) ∧ g + j = cs.length + 1 ∧ TrAt wr w.heap.size (w.heap.size + 1) w.heap.size l qv q ∧ S.Known cs given n k l q ∧ Below w.heap.size w wr ∧ ∀ c ∈ cs.take j, S.Waits (trl l) q c)
      case atStart => exact ⟨0, l, qv, q, Nat.zero_le _, rfl, rfl, Htr.out, Hkn.out, hbw, fun c hc => by simp at hc⟩
      case round =>
        clear hbw hc0 Htr Hkn
        obtain ⟨j, l, qv, q, hj, rfl, hgk, htr, hkn, hbw, hwt⟩ := hrel
        have Hgk := Lib.hid hgk; clear hgk
        have Htr := Lib.hid htr; clear htr
        have Hkn := Lib.hid hkn; clear hkn
        have Hwt := Lib.hid hwt; clear hwt
        have hbk := (H.out.below hbw)
        obtain ⟨AC', cc', hcv, hcl⟩ := hbk.clauses (HB0.out.trans (hbw.mono HB0.out.size))
        injection hcv with e1 _ e2
        subst e1 e2
        have hc0 := hbk.c0
        have hlenc := hcl.le
        clear hbk
        by_cases hlt2 : j < cs.length
        · obtain ⟨c, b, off, u, hx, rfl, _, h1, A1, c1, rfl, s1⟩ := hcl.at_ hlt2
          have hcm := List.mem_of_getElem? hx
          have con := plook_any w.heap.size (w.heap.size + 1) w.heap.size l qv q n A1 c.length c1 c wr Htr.out s1 (List.all_eq_true.1 HC.out c hcm) hn (by have := Hkn.out.mass; omega)
          have Hcon := Lib.hid con; clear con s1 hcl
          have Hx := Lib.hid hx; clear hx
          have Hcm := Lib.hid hcm; clear hcm
          go_wp2_with fail
          refine Hcon.out.mono ?_
          rintro e w1 ⟨bb, l', qv', q', rfl, htr1, hb1, hpost⟩
          have Htr1 := Lib.hid htr1; clear htr1
          have hpost' := Hkn.out.look Hcm.out (List.all_eq_true.1 HC.out c Hcm.out) hpost
          clear hpost
          rcases hpost' with ⟨rfl, hinc⟩ | ⟨rfl, hkn1, hfine, hw1, _⟩
          · have Hinc := Lib.hid hinc; clear hinc
            go_wp2
            go_ret2
            exact ⟨hbw.trans hb1, .inl ⟨rfl, Hinc.out⟩⟩
          · have Hkn1 := Lib.hid hkn1; clear hkn1
            have Hfine := Lib.hid hfine; clear hfine
            have Hw1 := Lib.hid hw1; clear hw1
            go_wp2
            go_roundg (gk - 1)
            case measure => have := Hgk.out; omega
            case rel =>
              have := Hgk.out
              refine ⟨j + 1, l', qv', q', by omega, by go_num, by omega, Htr1.out, Hkn1.out, hbw.trans hb1, fun c' hc' => ?_⟩
              rw [take_succ_of Hx.out] at hc'
              rcases List.mem_append.1 hc' with hc' | hc'
              · exact Hw1.out _ (Hwt.out c' hc')
              · rw [List.mem_singleton.1 hc']; exact .inl Hfine.out
        · have hwt := Hwt.out
          rw [take_all rfl (by omega)] at hwt
          have Hwt' := Lib.hid hwt; clear hwt Hwt Hgk hcl
          clear hc0
          go_wp2
          go_loopg [] (2 * n + 1) (fun g wr => ∃ (l : List (Int × Bool)) (qv : Value) (q : List Int), q.length + S.open_ n (trl l) + 1 ≤ g ∧ TrAt wr w.heap.size (w.heap.size + 1) w.heap.size l qv q ∧ S.Known cs given n k l q ∧ Below w.heap.size w wr ∧ ∀ c ∈ cs, S.Waits (trl l) q c)
          case atStart => exact ⟨l, qv, q, by have := Hkn.out.mass; omega, Htr.out, Hkn.out, hbw, Hwt'.out⟩
          case round =>
            clear hbw Htr Hkn Hwt'
            obtain ⟨l, qv, q, hgk, htr, hkn, hbw, hwt⟩ := hrel
            have Hgk := Lib.hid hgk; clear hgk
            have Hkn := Lib.hid hkn; clear hkn
            have Hwt := Lib.hid hwt; clear hwt
            obtain ⟨AQ, cQ, hqv⟩ := htr.own.form
            subst hqv
            have ht1 := htr.c1
            have htf := htr.f1
            cases q with
            | nil =>
              have Htr := Lib.hid htr; clear htr
              go_wp2
              go_ret2
              have hk : given.take k = given := take_all HA.out.len (Nat.le_refl _)
              have hf := Hkn.out.inv.fin (fun y hy => Hkn.out.giv y (by rw [hk]; exact hy)) Hwt.out
              exact ⟨hbw, .inr ⟨_, _, l, _, [], rfl, Htr.out, hf.1, hf.2⟩⟩
            | cons x r =>
              have hx := Hkn.out.lits_ x (List.mem_cons_self ..)
              obtain ⟨hx1, hx2, hx3⟩ := isLit_wf ⟨by omega, by omega⟩ hx
              clear hx hx3
              have hsl := htr.own.slInts
              obtain ⟨x', b, off, u, hx', hAQ, _, h1, hu⟩ := hsl.at_ (k := 0) (by simp)
              subst hAQ
              subst hu
              obtain rfl : x = x' := by simpa using hx'
              clear hx' hsl
              rw [Nat.add_zero] at h1
              have hlq : ((x :: r).length : Int) = (r.length : Int) + 1 := by simp
              have hlr : (x :: r).length = r.length + 1 := by simp
              have hlm : r.length ≤ 10000 := by have := Hkn.out.mass; simp at this; omega
              have Htr := Lib.hid htr; clear htr
              have hTw : w.heap.size ≤ w.heap.size + 1 := by omega
              obtain ⟨L, hL⟩ : ∃ L, L = r.length := ⟨_, rfl⟩
              have hL' : (x :: r).length = L + 1 := by rw [hL, hlr]
              have hlm' : L ≤ 10000 := by omega
              obtain ⟨uL, hlook, hown, _⟩ := H.out.look (x := -x) (by omega)
              obtain ⟨AU, cU, hu⟩ := hown.form
              subst hu
              have HLook := Lib.hid hlook; clear hlook
              obtain ⟨LL, hLL⟩ : ∃ LL, LL = (gl lw (-x)).length := ⟨_, rfl⟩
              rw [← hLL] at hown HLook
              have hllm := hown.le
              have Hown := Lib.hid hown; clear hown
              have HLL := Lib.hid hLL; clear hLL
              go_wp2_with ((refine wpList_slice_from _ rfl (.tmp 61) (.const (.int .i64 1)) 23 rfl 3 (.int .i64 0) 8 Try.underlying23 Try.infoInt _ (x :: r).length _ rfl Htr.out.own .i64 1 1 rfl rfl (by simp) (by simp) ?_; intro v' hown' hob'; replace hown' : OwnAt wr 3 1 v' r.length (r.map (Value.int .i64)) := (by simpa using hown'); have hpop := Htr.out.pop (v' := v') hown' hob'; have hb2 := hbw.setCell (p := ⟨w.heap.size + 1, 1, none⟩) hTw v'; have hbk := H.out.below hb2; have hc1 := hbk.c1; have Hpop := Lib.hid hpop; have Hb2 := Lib.hid hb2; have hlk := HLook.out _ (hb2.block Mw H.out.map_.lt); obtain ⟨AV, cV, hv⟩ := hown'.form; subst hv; clear hpop hbk hb2 hown' hob'))
              clear hc1 hlk ht1 htf h1
              obtain ⟨gO, rfl⟩ : ∃ g, g = gk := ⟨_, rfl⟩
              go_loopg [73] (LL + 1) (fun g i wr => ∃ (j : Nat) (l : List (Int × Bool)) (qv : Value) (q : List Int), j ≤ LL ∧ i = .int .i64 (j : Int) ∧ g + j = LL + 1 ∧ TrAt wr w.heap.size (w.heap.size + 1) w.heap.size l qv q ∧ S.Known cs given n k l q ∧ Below w.heap.size w wr ∧ (∀ c ∈ cs, S.Waits (trl l) q c ∨ ∃ i ∈ (gl lw (-x)).drop j, cs[i.toNat]? = some c) ∧ q.length + S.open_ n (trl l) + 2 ≤ gO)
              case atStart =>
                refine ⟨0, l, _, r, Nat.zero_le _, rfl, rfl, Hpop.out, ⟨Hkn.out.inv, Hkn.out.giv, by have := Hkn.out.mass; simp at this; omega, fun y hy => Hkn.out.lits_ y (List.mem_cons_of_mem _ hy)⟩, Hb2.out, fun c hc => ?_, by have := Hgk.out; simp at this; omega⟩
                rcases (Hwt.out c hc).pop with h | h
                · exact .inl h
                · obtain ⟨i, hi⟩ := List.getElem?_of_mem hc
                  exact .inr ⟨i, by simpa using HI.out.1 (-x) i c hi h, by simpa using hi⟩
              case round =>
                clear Hwt Hkn Hpop Hb2 hbw Htr
                obtain ⟨j4, l, qv, q, hj4, rfl, hgk4, htr, hkn, hbw, hwt, hms⟩ := hrel
                have Hgk4 := Lib.hid hgk4; clear hgk4
                have Htr := Lib.hid htr; clear htr
                have Hkn := Lib.hid hkn; clear hkn
                have Hwt := Lib.hid hwt; clear hwt
                have Hms := Lib.hid hms; clear hms
                by_cases hlt4 : j4 < LL
                · have hsu := (Hown.out.below hbw Hown.out.lt).slInts
                  obtain ⟨i, bi, offi, ui, hxi, rfl, _, hi1, rfl⟩ := hsu.at_ hlt4
                  clear hsu
                  obtain ⟨hi0, hi2⟩ := HI.out.2 (-x) i (List.mem_of_getElem? hxi)
                  obtain ⟨iN, rfl⟩ : ∃ iN : Nat, i = (iN : Int) := ⟨i.toNat, by omega⟩
                  have Hxi := Lib.hid hxi; clear hxi
                  have hbk := (H.out.below hbw)
                  obtain ⟨AC2, cc2, hcv, hcl⟩ := hbk.clauses (HB0.out.trans (hbw.mono HB0.out.size))
                  injection hcv with e1 _ e2
                  subst e1 e2
                  have hc0 := hbk.c0
                  have hlenc := hcl.le
                  clear hbk
                  obtain ⟨c, b3, off3, u3, hx3, hAA3, _, h13, A1, c1, rfl, s1⟩ := hcl.at_ (k := iN) (by omega)
                  subst hAA3
                  clear hcl
                  have hcm := List.mem_of_getElem? hx3
                  have con := plook_any w.heap.size (w.heap.size + 1) w.heap.size l qv q n A1 c.length c1 c wr Htr.out s1 (List.all_eq_true.1 HC.out c hcm) hn (by have := Hkn.out.mass; omega)
                  have Hcon := Lib.hid con; clear con s1
                  have Hx3 := Lib.hid hx3; clear hx3
                  have Hcm := Lib.hid hcm; clear hcm
                  go_wp2_with fail
                  refine Hcon.out.mono ?_
                  rintro e w1 ⟨bb, l', qv', q', rfl, htr1, hb1, hpost⟩
                  have Htr1 := Lib.hid htr1; clear htr1
                  have hpost' := Hkn.out.look Hcm.out (List.all_eq_true.1 HC.out c Hcm.out) hpost
                  clear hpost
                  rcases hpost' with ⟨rfl, hinc⟩ | ⟨rfl, hkn1, hfine, hw1, hm1⟩
                  · have Hinc := Lib.hid hinc; clear hinc
                    go_wp2
                    go_ret2
                    exact ⟨hbw.trans hb1, .inl ⟨rfl, Hinc.out⟩⟩
                  · have Hkn1 := Lib.hid hkn1; clear hkn1
                    have Hfine := Lib.hid hfine; clear hfine
                    have Hw1 := Lib.hid hw1; clear hw1
                    have Hm1 := Lib.hid hm1; clear hm1
                    go_wp2
                    go_roundg (gk - 1)
                    case measure => have := Hgk4.out; omega
                    case rel =>
                      have := Hgk4.out
                      refine ⟨j4 + 1, l', qv', q', by omega, by go_num, by omega, Htr1.out, Hkn1.out, hbw.trans hb1, fun c' hc' => ?_, by have := Hms.out; have := Hm1.out; omega⟩
                      rcases Hwt.out c' hc' with h | ⟨i', hi', hce⟩
                      · exact .inl (Hw1.out _ h)
                      · rcases mem_drop_cases Hxi.out hi' with rfl | h
                        · have e3 := Hx3.out
                          rw [Int.toNat_natCast, e3] at hce
                          injection hce with hce
                          subst hce
                          exact .inl (.inl Hfine.out)
                        · exact .inr ⟨i', h, hce⟩
                · go_wp2
                  go_roundg (gO - 1)
                  case measure => have := Hms.out; omega
                  case rel =>
                    refine ⟨l, qv, q, by have := Hms.out; omega, Htr.out, Hkn.out, hbw, fun c hc => ?_⟩
                    rcases Hwt.out c hc with h | ⟨i', hi', _⟩
                    · exact h
                    · rw [List.drop_of_length_le (by have := HLL.out; omega)] at hi'; cases hi'
end Go.Proofs.Ytceelipcclfdmaa
