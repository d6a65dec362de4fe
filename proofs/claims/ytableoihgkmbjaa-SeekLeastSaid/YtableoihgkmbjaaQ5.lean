/- Walk of the program's layer of rows: the results of a step. -/
import Derived.Test.YtableoihgkmbjaaQ4
namespace Go.Proofs.Ytableoihgkmbjaa
open Go.RowKit
set_option linter.unusedVariables false

/-- one column of several, by its number: the cell that holds it, its block -/
theorem colC_at {B : Nat} {W : World} {A : Option Addr} {m c : Nat} {us : List Value} {cs : List (List Int)} (hown : OwnAt W 24 1 (.slice A m c) m us) (hel : Elems (ColC B) W us cs) {i N : Nat} (hi : i < m) (hlen : ∀ x ∈ cs, x.length = N) :
    ∃ b off bi, A = some ⟨b, off, none⟩ ∧ b < W.heap.size ∧ W.cell? ⟨b, off + i, none⟩ = some (.slice (some ⟨bi, 0, none⟩) N N) ∧ bi < W.heap.size ∧ ∀ a, a < N → W.cell? ⟨bi, a, none⟩ = some (.int .u32 ((cs.getD i []).getD a 0)) := by
  obtain ⟨b, off, u, hA, hb, hcell, hu⟩ := hown.at1 hi
  have hl : cs.length = m := by rw [← hel.1]; have := hown.1; omega
  have hci : cs[i]? = some (cs[i]'(by omega)) := List.getElem?_eq_getElem (by omega)
  obtain ⟨bi, rfl, _, hrow⟩ := hel.2 i _ _ hci hu
  have hN : (cs[i]'(by omega)).length = N := hlen _ (List.getElem_mem _)
  have hd : cs.getD i [] = cs[i]'(by omega) := by rw [List.getD_eq_getElem?_getD, hci, Option.getD_some]
  refine ⟨b, off, bi, hA, hb, by rw [hcell, hN], (Array.getElem?_eq_some_iff.1 hrow).1, fun a ha => ?_⟩
  rw [cell_of_row W bi a _ _ (0, 0) hrow, hd]
  have : (cs[i]'(by omega))[a]? = some ((cs[i]'(by omega)).getD a 0) := by
    rw [List.getD_eq_getElem?_getD, List.getElem?_eq_getElem (by omega), Option.getD_some]
  rw [List.getElem?_toArray, List.getElem?_map, this]
  rfl

theorem col_row {wf w3 : World} {g : Nat} {o : Obj} (hb : Below wf.drew.heap.size wf.drew w3) (h : wf.heap[g]? = some o) : w3.heap[g]? = some o := (hb.block g (Array.getElem?_eq_some_iff.1 h).1).trans h
theorem Bel.set {W1 X : World} (h : Bel W1 X) {g a : Nat} (hg : W1.heap.size ≤ g) (v : Value) : Bel W1 (X.setCell ⟨g, a, none⟩ v) := Below.setCell h (p := ⟨g, a, none⟩) hg v
theorem s8_of {N a : Nat} {p0 p1 q0 q1 q2 r1 r2 : Prop} {s1 s2 : Nat → Prop} (h : (p0 ∧ p1) ∧ (q0 ∧ q1 ∧ q2) ∧ r1 ∧ r2 ∧ ∀ a, a < N → s1 a ∧ s2 a) (ha : a < N) : p1 ∧ q0 ∧ q1 ∧ q2 ∧ r1 ∧ r2 ∧ s1 a ∧ s2 a :=
  ⟨h.1.2, h.2.1.1, h.2.1.2.1, h.2.1.2.2, h.2.2.1, h.2.2.2.1, (h.2.2.2.2 a ha).1, (h.2.2.2.2 a ha).2⟩
theorem column_len (k w : Nat) (cs : List (List Int)) (s : K.Stp) : (K.column k w cs s).length = K.size k w := by simp [K.column]
theorem take_column {k w a : Nat} {cs : List (List Int)} {s : K.Stp} (h : a < K.size k w) : (K.column k w cs s).take (a + 1) = (K.column k w cs s).take a ++ [(B.total s.1 w ((cs.getD s.2.1.toNat []).getD a 0) ((cs.getD s.2.2.toNat []).getD a 0)).1] :=
  K.take_succ_at (by simp [K.column, h])
theorem take_column_len {k w a : Nat} {cs : List (List Int)} {s : K.Stp} (h : a ≤ K.size k w) : ((K.column k w cs s).take a).length = a := by rw [List.length_take, column_len]; omega

set_option maxRecDepth 100000 in
set_option maxHeartbeats 4000000 in
theorem pcolumn_any (k w : Nat) (hk : k = 1 ∨ k = 2) (hw : w = 1 ∨ w = 2 ∨ w = 3) (o : Int) (ia ib : Nat) (B9 : Nat) (A : Option Addr) (m c : Nat) (us : List Value) (cs : List (List Int)) (W : World)
    (hown : OwnAt W 24 1 (.slice A m c) m us) (hel : Elems (ColC B9) W us cs) (hia : ia < m) (hib : ib < m) (hlen : ∀ x ∈ cs, x.length = K.size k w) (h32 : ∀ i a, 0 ≤ (cs.getD i []).getD a 0) (ho : o ∈ K.ops) (hm : m ≤ 100) :
    Calls Try.prog 36 #[.agg #[.int .i64 k, .int .i64 w], .agg #[.int .i64 o, .int .i64 ia, .int .i64 ib], .slice A m c] W fun e w' => ∃ u, e = .returned u ∧ ColC W.heap.size w' u (K.column k w cs (o, (ia : Int), (ib : Int))) ∧ Below W.heap.size W w' := by
  have hor := K.ops_range ho
  have hop : (Lit.int .i64 o).wf = true := by simp [Lit.wf, IntKind.min, IntKind.max, IntKind.signed, IntKind.bits]; omega
  have HT := Lib.hid (fun x y (hx : 0 ≤ x) (hy : 0 ≤ y) W' => total_any o w x y W' hop hx hy)
  have HS := Lib.hid (fun W' => psize_any k w hk hw W')
  obtain ⟨s0, s1, s2, s3⟩ := size_facts hk hw
  obtain ⟨ba, offa, bia, hA, hba, hca, hbia, hcela⟩ := colC_at hown hel hia hlen
  obtain ⟨bb, offb, bib, hA2, hbb, hcb, hbib, hcelb⟩ := colC_at hown hel hib hlen
  rw [hA] at hA2
  injection hA2 with hA2
  injection hA2 with hA2 hA3
  subst hA2
  subst hA3
  subst hA
  obtain ⟨W1, hW1⟩ : ∃ W1, W1 = (W.alloc (.cells #[.int .i64 k, .int .i64 w] 44)).alloc (.cells #[.int .i64 o, .int .i64 ia, .int .i64 ib] 42) := ⟨_, rfl⟩
  have hB1 : Below W.heap.size W W1 := by rw [hW1]; exact ((Below.refl _ _).alloc (Nat.le_refl _) _).alloc (by simp) _
  have hr0 : W1.heap[W.heap.size]? = some (.cells #[.int .i64 k, .int .i64 w] 44 (0, 0)) := by rw [hW1]; exact row_alloc (heap_alloc_new W _) _
  have hr1 : W1.heap[W.heap.size + 1]? = some (.cells #[.int .i64 o, .int .i64 ia, .int .i64 ib] 42 (0, 0)) := by rw [hW1]; exact new_two W _ _
  have hsz : W1.heap.size = W.heap.size + 1 + 1 := by rw [hW1]; simp
  have Hall := Lib.hid (fun (X : World) (h : Bel W1 X) => (show
      (X.cell? ⟨W.heap.size, 0, none⟩ = some (.int .i64 (k : Int)) ∧ X.cell? ⟨W.heap.size, 1, none⟩ = some (.int .i64 (w : Int))) ∧
      (X.cell? ⟨W.heap.size + 1, 0, none⟩ = some (.int .i64 o) ∧ X.cell? ⟨W.heap.size + 1, 1, none⟩ = some (.int .i64 (ia : Int)) ∧ X.cell? ⟨W.heap.size + 1, 2, none⟩ = some (.int .i64 (ib : Int))) ∧
      X.cell? ⟨ba, offa + ia, none⟩ = some (.slice (some ⟨bia, 0, none⟩) (K.size k w) (K.size k w)) ∧ X.cell? ⟨ba, offa + ib, none⟩ = some (.slice (some ⟨bib, 0, none⟩) (K.size k w) (K.size k w)) ∧
      ∀ a, a < K.size k w → X.cell? ⟨bia, a, none⟩ = some (.int .u32 ((cs.getD ia []).getD a 0)) ∧ X.cell? ⟨bib, a, none⟩ = some (.int .u32 ((cs.getD ib []).getD a 0)) from by
    have hc : ∀ (p : Addr), p.block < W1.heap.size → X.cell? p = W1.cell? p := fun p hp => Below.cell h hp
    have hc2 : ∀ (p : Addr), p.block < W.heap.size → X.cell? p = W.cell? p := fun p hp => (hc p (by omega)).trans (hB1.cell hp)
    refine ⟨⟨?_, ?_⟩, ⟨?_, ?_, ?_⟩, ?_, ?_, fun a ha => ⟨?_, ?_⟩⟩
    · rw [hc _ (by simp; omega), cell_of_row _ _ _ _ _ (0, 0) hr0]; rfl
    · rw [hc _ (by simp; omega), cell_of_row _ _ _ _ _ (0, 0) hr0]; rfl
    · rw [hc _ (by simp; omega), cell_of_row _ _ _ _ _ (0, 0) hr1]; rfl
    · rw [hc _ (by simp; omega), cell_of_row _ _ _ _ _ (0, 0) hr1]; rfl
    · rw [hc _ (by simp; omega), cell_of_row _ _ _ _ _ (0, 0) hr1]; rfl
    · rw [hc2 _ hba]; exact hca
    · rw [hc2 _ hbb]; exact hcb
    · rw [hc2 _ hbia]; exact hcela a ha
    · rw [hc2 _ hbib]; exact hcelb a ha))
  have hge1 : W.heap.size ≤ W1.heap.size := by omega
  have HB1 := Lib.hid hB1
  have Hge1 := Lib.hid hge1
  obtain ⟨N, hN⟩ : ∃ N, N = K.size k w := ⟨_, rfl⟩
  rw [← hN] at Hall HS s3
  have HN := Lib.hid hN
  have H32 := Lib.hid h32
  obtain ⟨fa, hfa⟩ : ∃ fa : Nat → Int, fa = fun a => (cs.getD ia []).getD a 0 := ⟨_, rfl⟩
  obtain ⟨fb, hfb⟩ : ∃ fb : Nat → Int, fb = fun a => (cs.getD ib []).getD a 0 := ⟨_, rfl⟩
  have hfa' : ∀ a, (cs.getD ia []).getD a 0 = fa a := fun a => by rw [hfa]
  have hfb' : ∀ a, (cs.getD ib []).getD a 0 = fb a := fun a => by rw [hfb]
  have Hf0 := Lib.hid (show (∀ a, 0 ≤ fa a) ∧ ∀ a, 0 ≤ fb a from ⟨fun a => by rw [← hfa']; exact h32 ia a, fun a => by rw [← hfb']; exact h32 ib a⟩)
  simp only [hfa', hfb'] at Hall
  obtain ⟨col, hcol⟩ : ∃ col, col = K.column k w cs (o, (ia : Int), (ib : Int)) := ⟨_, rfl⟩
  have Hcl := Lib.hid (show col.length = N from by rw [hcol, column_len, hN])
  have Hts := Lib.hid (show ∀ a, a < N → col.take (a + 1) = col.take a ++ [(B.total o w (fa a) (fb a)).1] from fun a ha => by rw [hcol, take_column (by rw [← hN]; exact ha), ← hfa', ← hfb']; rfl)
  have Htl := Lib.hid (show ∀ a, a ≤ N → (col.take a).length = a from fun a ha => by rw [hcol]; exact take_column_len (by rw [← hN]; exact ha))
  rw [← hcol]
  have hr01 := hW1
  clear hfa hfb hfa' hfb' hcol h32 hN hlen hown hel s0 s1 s2 hca hcb hcela hcelb hr0 hr1 hbia hbib hba hbb hor hop ho hsz hge1 hB1 hk hw hr01
  have hall := Hall.out W1 (Below.refl _ _)
  obtain ⟨⟨hc0, hc1⟩, _⟩ := hall
  go_enter Try.func36, Try.ntmps36
  rw [hW1] at hc0 hc1
  go_wp2_with fail
  rw [← hW1] at hc0 hc1 ⊢
  (with_reducible refine (HS.out _).mono ?_)
  rintro e w2 ⟨rfl, hb2⟩
  clear hW1 hc0 hc1
  have Hb2 := Lib.hid hb2; clear hb2
  have hmk := fun (W' : World) => run_make_n (P := Try.prog) 24 40 (.int .u32 0) 4 Try.underlying24 infoU32 rfl .i64 .i64 N (N : Int) rfl (by omega) (by omega) W'
  go_wp2
  clear hmk
  have Hbel2 := Lib.hid (show Bel W1 w2 from (show Bel W1 W1 from Below.refl _ _).step Hb2)
  go_loopw [14] (fun i wf => ∃ (a : Nat), a ≤ N ∧ i = .int .i64 (a : Int) ∧ Hid (wf.heap[w2.heap.size]? = some (.cells (fillC (col.take a) N).toArray 40 (0, 0)) ∧ Below w2.heap.size w2 wf)) (fun i _ => N - (intOf i).toNat)
  case atStart => exact ⟨0, Nat.zero_le _, rfl, by rw [List.take_zero, fillC_nil]; exact heap_alloc_new _ _, (Below.refl _ _).alloc (Nat.le_refl _) _⟩
  case round =>
    obtain ⟨wf, rfl⟩ : ∃ x, x = wr := ⟨wr, rfl⟩
    obtain ⟨a, ha, rfl, HF⟩ := hrel
    have Hbelf := Lib.hid (show Bel W1 wf from Hbel2.out.step (Lib.hid HF.out.2))
    by_cases hla : a < N
    · obtain ⟨⟨hc0, hc1⟩, ⟨hx0, hx1, hx2⟩, hca, hcb, hcc⟩ := Hall.out wf Hbelf.out
      obtain ⟨hya, hyb⟩ := hcc a hla
      clear hcc
      have Hin := Lib.hid (fun X => HT.out (fa a) (fb a) (Hf0.out.1 a) (Hf0.out.2 a) X)
      go_wp2_with fail
      go_region_held3 (fun w' => w'.cell? ⟨W.heap.size, 1, none⟩ = some (.int .i64 (w : Int)) ∧ w'.cell? ⟨W.heap.size + 1, 0, none⟩ = some (.int .i64 o) ∧ w'.cell? ⟨W.heap.size + 1, 1, none⟩ = some (.int .i64 (ia : Int)) ∧ w'.cell? ⟨W.heap.size + 1, 2, none⟩ = some (.int .i64 (ib : Int)) ∧
          w'.cell? ⟨ba, offa + ia, none⟩ = some (.slice (some ⟨bia, 0, none⟩) N N) ∧ w'.cell? ⟨ba, offa + ib, none⟩ = some (.slice (some ⟨bib, 0, none⟩) N N) ∧ w'.cell? ⟨bia, a, none⟩ = some (.int .u32 (fa a)) ∧ w'.cell? ⟨bib, a, none⟩ = some (.int .u32 (fb a)))
        (first | go_keep | (go_split_ands; refine ⟨?_, ?_, ?_, ?_, ?_, ?_, ?_, ?_⟩ <;> assumption) | exact Hst.out _)
        ((go_at_call 51; (with_reducible refine (Hin.out _).mono ?_); rintro e w3 ⟨rfl, hb3⟩; obtain ⟨⟨hd0, hd1⟩, ⟨he0, he1, he2⟩, hda, hdb, hdd⟩ := Hall.out w3 (Hbelf.out.drew.step (Lib.hid hb3)); obtain ⟨hza, hzb⟩ := hdd a hla; obtain ⟨hs3, hf3⟩ := fill_cell (col_row hb3 HF.out.1) (by rw [Htl.out a ha]; exact ha) hla; obtain ⟨v0, hv0⟩ := Option.isSome_iff_exists.1 hs3; clear hdd hs3; have Hst := Lib.hid (fun v => s8_of (Hall.out (w3.setCell ⟨w2.heap.size, a, none⟩ v) ((Hbelf.out.drew.step (Lib.hid hb3)).set (bel_size Hbel2.out) v)) hla); have Hb3 := Lib.hid hb3; clear hb3))
      go_wp2
      go_roundw
      case rel => exact ⟨a + 1, by omega, by go_num, by rw [Hts.out a hla]; exact fill_step (col_row Hb3.out HF.out.1) (Htl.out a ha) hla, ((HF.out.2.trans ((Below.refl _ _).drew)).trans (Hb3.out.mono HF.out.2.size)).setCell (by exact Nat.le_refl _) _⟩
      case measure => simp [intOf]; omega
    · have hrow : wf.heap[w2.heap.size]? = some (.cells (col.map (Value.int .u32)).toArray 40 (0, 0)) := by
        have := HF.out.1
        rwa [List.take_of_length_le (by rw [Hcl.out]; omega), fillC_full Hcl.out] at this
      have Hrow := Lib.hid hrow; clear hrow
      go_wp2
      go_ret
      exact ⟨.slice (some ⟨w2.heap.size, 0, none⟩) N N, rfl, ⟨w2.heap.size, by rw [Hcl.out], Nat.le_trans Hge1.out (bel_size Hbel2.out), Hrow.out⟩, HB1.out.trans (Hbelf.out.mono Hge1.out)⟩
end Go.Proofs.Ytableoihgkmbjaa
