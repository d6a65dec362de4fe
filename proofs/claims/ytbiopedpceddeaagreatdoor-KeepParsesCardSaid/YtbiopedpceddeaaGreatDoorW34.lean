/- Merged: C4KF5. -/
import Derived.Test.YtbiopedpceddeaaGreatDoorW32
import Derived.Test.YtbiopedpceddeaaGreatDoorW02
import Derived.Handy
set_option linter.unusedVariables false
set_option linter.unusedSimpArgs false
namespace Go.Proofs.YtbiopedpceddeaaGreatDoor
open Go.RowKit Go.Maps Go.Lib
set_option linter.unusedVariables false
set_option linter.unusedSimpArgs false
namespace KT
/-- words in block gw, told by the scanner in block gs -/
structure Scn (w : World) (gs gw : Nat) (cells : Array Value) (A : Option Addr) (n c : Nat) (r : List (List UInt8)) : Prop where
  row : w.heap[gs]? = some (.cells #[.slice A n c] 109 (0, 0))
  wd : w.heap[gw]? = some (.cells cells 9 (0, 0))
  len : r.length = n
  cap : n ≤ c
  at_ : n = 0 ∨ ∃ off, A = some ⟨gw, off, none⟩ ∧ ∀ (k : Nat) (x : List UInt8), r[k]? = some x → cells[off + k]? = some (.string ⟨x.toArray⟩)
theorem Scn.ne {w : World} {gs gw : Nat} {cells : Array Value} {A : Option Addr} {n c : Nat} {r : List (List UInt8)} (h : Scn w gs gw cells A n c r) : gw ≠ gs := RF.row_ne h.wd h.row (by decide)
theorem Scn.keep {w w' : World} {gs gw : Nat} {cells : Array Value} {A : Option Addr} {n c : Nat} {r : List (List UInt8)} (h : Scn w gs gw cells A n c r) (h1 : w'.heap[gs]? = w.heap[gs]?) (h2 : w'.heap[gw]? = w.heap[gw]?) : Scn w' gs gw cells A n c r :=
  ⟨h1.trans h.row, h2.trans h.wd, h.len, h.cap, h.at_⟩
theorem Scn.below {w w' : World} {gs gw : Nat} {cells : Array Value} {A : Option Addr} {n c : Nat} {r : List (List UInt8)} (h : Scn w gs gw cells A n c r) (hb : Below w.heap.size w w') : Scn w' gs gw cells A n c r :=
  h.keep (hb.block _ (Array.getElem?_eq_some_iff.1 h.row).1) (hb.block _ (Array.getElem?_eq_some_iff.1 h.wd).1)
theorem infoStr : (Tryz.prog.info? 9).map (fun i => (i.zero, i.size, i.bytes)) = some (some (.string ByteArray.empty), 1, 16) := infoS

/-- the next word -/
def NextPost (W : World) (gs gw : Nat) (cells : Array Value) (r : List (List UInt8)) (e : List UInt8) (en : Ending) (w' : World) : Prop :=
  (r = [] ∧ en = .returned (.tuple #[.string ⟨#[]⟩, .bool false]) ∧ W = w') ∨
  ∃ x r' A n c, r = x :: r' ∧ en = .returned (.tuple #[.string ⟨x.toArray⟩, .bool (x != e)]) ∧ w' = W.setCell ⟨gs, 0, none⟩ (.slice A n c) ∧ Scn w' gs gw cells A n c r'

set_option maxRecDepth 100000 in
set_option maxHeartbeats 4000000 in
theorem next_any {W : World} {gs gw : Nat} {cells : Array Value} {A : Option Addr} {n c : Nat} {r : List (List UInt8)} {e : List UInt8} (h : Scn W gs gw cells A n c r) :
    Calls Tryz.prog 285 #[.pointer (some ⟨gs, 0, none⟩), .string ⟨e.toArray⟩] W (NextPost W gs gw cells r e) := by
  have h0 : W.cell? ⟨gs, 0, none⟩ = some (.slice A n c) := by rw [cell_of_row _ _ _ _ _ (0, 0) h.row]; rfl
  have hf := frozen_row h.row 0
  have Hh := Lib.hid h
  have hlen := h.len
  cases r with
  | nil =>
    simp only [List.length_nil] at hlen
    subst hlen
    clear h
    go_enter Tryz.func285, Tryz.ntmps285
    go_wp2
    go_ret2
    exact .inl ⟨rfl, rfl, rfl⟩
  | cons x r =>
    obtain ⟨m, rfl⟩ : ∃ m, n = m + 1 := ⟨r.length, by simpa using hlen.symm⟩
    rcases h.at_ with h1 | ⟨off, rfl, hc⟩
    · omega
    have hx : W.cell? ⟨gw, off, none⟩ = some (.string ⟨x.toArray⟩) := by rw [cell_of_row _ _ _ _ _ (0, 0) h.wd]; exact hc 0 x rfl
    have Hc := Lib.hid hc
    have hcap := h.cap
    have hsl := run_slice_fromN (P := Tryz.prog) Tryz.underlying106 infoStr gw off (m + 1) c 1 (by omega) W
    simp only [Nat.mul_one, Nat.add_sub_cancel] at hsl
    clear h hc hlen
    go_enter Tryz.func285, Tryz.ntmps285
    go_wp2
    · obtain rfl : m = 0 := by omega
      go_ret2
      refine .inr ⟨x, r, _, _, _, rfl, rfl, rfl, ?_⟩
      have hh := Hh.out
      exact ⟨heap_setCell_same W gs 0 _ _ _ hh.row, (RF.set_block hh.ne (Array.getElem?_eq_some_iff.1 hh.wd).1).trans hh.wd, by have := hh.len; simpa using this, by omega, .inl rfl⟩
    · go_ret2
      refine .inr ⟨x, r, _, _, _, rfl, rfl, rfl, ?_⟩
      have hh := Hh.out
      refine ⟨heap_setCell_same W gs 0 _ _ _ hh.row, (RF.set_block hh.ne (Array.getElem?_eq_some_iff.1 hh.wd).1).trans hh.wd, by have := hh.len; simpa using this, by omega, .inr ⟨off + 1, rfl, fun k y hy => ?_⟩⟩
      have := Hc.out (k + 1) y (by simpa using hy)
      rw [show off + 1 + k = off + (k + 1) by omega]
      exact this
/-- what is told of the words up to an end: the words before (d), the word at hand, the rest -/
structure Told (e : List UInt8) (ws d : List (List UInt8)) (b : Bool) (x : List UInt8) (r : List (List UInt8)) : Prop where
  up : upTo e ws = d ++ (if b = true then x :: upTo e r else [])
  past_ : past e ws = (if b = true then past e r else r)
theorem Told.next {e : List UInt8} {ws d r : List (List UInt8)} {x : List UInt8} (h : Told e ws d true x r) :
    (r = [] → Told e ws (d ++ [x]) false [] []) ∧ ∀ y r', r = y :: r' → Told e ws (d ++ [x]) (y != e) y r' := by
  obtain ⟨h1, h2⟩ := h
  rw [if_pos rfl] at h1 h2
  refine ⟨fun er => ?_, fun y r' er => ?_⟩
  · subst er
    exact ⟨by rw [h1]; simp [upTo], by rw [h2]; simp [past]⟩
  · subst er
    by_cases hy : y = e
    · subst hy
      have : (y != y) = false := by simp
      rw [this]
      exact ⟨by rw [h1, upTo, if_pos rfl]; simp, by rw [h2, past, if_pos rfl]; simp⟩
    · have : (y != e) = true := by simpa using hy
      rw [this]
      exact ⟨by rw [h1, upTo, if_neg hy]; simp, by rw [h2, past, if_neg hy]; simp⟩
theorem Told.start (e : List UInt8) (ws : List (List UInt8)) : (ws = [] → Told e ws [] false [] []) ∧ ∀ y r', ws = y :: r' → Told e ws [] (y != e) y r' := by
  refine ⟨fun er => ?_, fun y r' er => ?_⟩
  · subst er
    exact ⟨by simp [upTo], by simp [past]⟩
  · subst er
    by_cases hy : y = e
    · subst hy
      have : (y != y) = false := by simp
      rw [this]
      exact ⟨by rw [upTo, if_pos rfl]; simp, by rw [past, if_pos rfl]; simp⟩
    · have : (y != e) = true := by simpa using hy
      rw [this]
      exact ⟨by rw [upTo, if_neg hy]; simp, by rw [past, if_neg hy]; simp⟩

def NodesPost (W : World) (gs gw : Nat) (cells : Array Value) (e : List UInt8) (ws : List (List UInt8)) (en : Ending) (w' : World) : Prop :=
  ∃ v A n c, en = .returned v ∧ OwnR (NdF W.heap.size) W.heap.size w' v ((upTo e ws).map nodeOf) ∧ Scn w' gs gw cells A n c (past e ws) ∧ Kpm (fun i => i = gs) W w'

theorem NextPost.told {T : Bool → List UInt8 → List (List UInt8) → Prop} {W w' : World} {gs gw : Nat} {cells : Array Value} {A : Option Addr} {n c : Nat} {r : List (List UInt8)} {e : List UInt8} {en : Ending} (h : Scn W gs gw cells A n c r) (hp : NextPost W gs gw cells r e en w') (hT : (r = [] → T false [] []) ∧ ∀ y r', r = y :: r' → T (y != e) y r') :
    ∃ (b : Bool) (x : List UInt8) (r' : List (List UInt8)) (A' : Option Addr) (n' c' : Nat), en = .returned (.tuple #[.string ⟨x.toArray⟩, .bool b]) ∧ Scn w' gs gw cells A' n' c' r' ∧ Kpm (fun i => i = gs) W w' ∧ T b x r' ∧ (∀ y ∈ r', y ∈ r) ∧ (b = true → x ∈ r) ∧ r'.length + (if b = true then 1 else 0) ≤ r.length := by
  rcases hp with ⟨h1, rfl, rfl⟩ | ⟨x, r', A', n', c', h1, rfl, rfl, h2⟩
  · subst h1
    exact ⟨false, [], [], A, n, c, rfl, h, Kpm.refl _ _, hT.1 rfl, fun y hy => hy, fun e => (by cases e), by simp⟩
  · subst h1
    refine ⟨_, x, r', A', n', c', rfl, h2, (Kpm.refl (fun i => i = gs) W).setCell (p := ⟨gs, 0, none⟩) (fun _ => rfl) _, hT.2 x r' rfl, fun y hy => List.mem_cons_of_mem _ hy, fun _ => by simp, ?_⟩
    rw [List.length_cons]
    split <;> omega

set_option maxRecDepth 100000 in
set_option maxHeartbeats 4000000 in
theorem nodes_any {W : World} {gs gw : Nat} {cells : Array Value} {A : Option Addr} {n c : Nat} {ws : List (List UInt8)} {e : List UInt8} (h : Scn W gs gw cells A n c ws) (hL : ∀ X, Kpm (fun i => i = gs) W X → Lb X) (hw : ∀ x ∈ ws, x.length ≤ 900000) (hn : ws.length ≤ 900000) :
    Calls Tryz.prog 76 #[.iface 105 (.pointer (some ⟨gs, 0, none⟩)), .string ⟨e.toArray⟩] W (NodesPost W gs gw cells e ws) := by
  have HL := Lib.hid hL
  have Hw := Lib.hid hw
  have Hn := Lib.hid hn
  have Hh := Lib.hid h
  have HN := Lib.hid (next_any (e := e) h)
  clear h hL hw hn
  go_enter Tryz.func76, Tryz.ntmps76
  go_wp2_with fail
  (refine HN.out.mono ?_)
  rintro en w1 hp
  obtain ⟨b, x, r, A1, n1, c1, rfl, hs1, hk1, ht1, hm1, hx1, hl1⟩ := hp.told Hh.out (Told.start e ws)
  have Hs1 := Lib.hid hs1
  have Hk1 := Lib.hid hk1
  have Ht1 := Lib.hid ht1
  have Hm1 := Lib.hid hm1
  have Hx1 := Lib.hid hx1
  have Hl1 := Lib.hid hl1
  clear hp hs1 hk1 ht1 hm1 hx1 hl1 HN
  go_wp2_with fail
  go_loopg [5, 6, 7] (ws.length + 1) (fun gg s5 s6 s7 wr => ∃ (d r : List (List UInt8)) (b : Bool) (x : List UInt8) (v : Value) (A : Option Addr) (n c : Nat), s5 = v ∧ s6 = .string ⟨x.toArray⟩ ∧ s7 = .bool b ∧ gg + d.length = ws.length + 1 ∧ Hid (r.length + (if b = true then 1 else 0) + d.length ≤ ws.length) ∧ Hid (Told e ws d b x r) ∧ Hid (Scn wr gs gw cells A n c r) ∧ Hid (OwnR (NdF W.heap.size) W.heap.size wr v (d.map nodeOf)) ∧ Hid (Kpm (fun i => i = gs) W wr) ∧ Hid (∀ y ∈ r, y ∈ ws) ∧ Hid (b = true → x ∈ ws))
  case atStart => exact ⟨[], r, b, x, _, A1, n1, c1, rfl, rfl, rfl, rfl, Lib.hid (by simpa using Hl1.out), Ht1, Hs1, Lib.hid (OwnR.nil_ _ _ _), Hk1, Hm1, Hx1⟩
  case round =>
    clear Hs1 Hk1 Ht1 Hm1 Hx1 Hl1
    obtain ⟨d, r, b, x, v, A, n, c, rfl, rfl, rfl, hgk, Hl, Ht, Hs, Ho, Hk, Hm, Hx⟩ := hrel
    have Hgk := Lib.hid hgk
    clear hgk
    cases b with
    | false =>
      go_wp2
      go_ret
      have h1 := Ht.out.up
      have h2 := Ht.out.past_
      simp only [Bool.false_eq_true, if_false, List.append_nil] at h1 h2
      refine ⟨_, A, n, c, rfl, by rw [h1]; exact Ho.out, by rw [h2]; exact Hs.out, Hk.out⟩
    | true =>
      have HNd := Lib.hid (node_any (t := x) (Hw.out x (Hx.out rfl)) (HL.out _ Hk.out))
      obtain ⟨y, hy⟩ : ∃ y, y = nodeOf x := ⟨_, rfl⟩
      rw [← hy] at HNd
      have Hy := Lib.hid hy
      have hdl : (d.map nodeOf).length ≤ 900000 := by
        have h1 := Hl.out
        have h2 := Hn.out
        rw [List.length_map]
        omega
      have Hbs := Lib.hid Hk.out.size
      obtain ⟨Av, cv, hv⟩ := Ho.out.form
      rw [List.length_map] at hv
      subst hv
      clear hy
      go_wp2_with fail
      (refine HNd.out.mono ?_)
      rintro en w3 ⟨A3, c3, rfl, hnd, hb3⟩
      have Hnd := Lib.hid hnd
      have Hb3 := Lib.hid hb3
      have Ho3 := Lib.hid (Ho.out.below (ndF_rel _) hb3)
      have Hs3 := Lib.hid (Hs.out.below hb3)
      have Hvo := Lib.hid (fun g hg => (Ho.out.row g hg).1)
      clear hnd hb3 HNd
      go_wp2_with (at_builtin; go_loud (refine wpList_append_nodeR3 (ndF_rel _) rfl (.tmp 21) (.tmp 24) rfl (.slice Av d.length cv) (d.map nodeOf) rfl Ho3.out [.int .i64 y.op, .int .i64 y.w, .int .i64 y.fl, .slice A3 y.args.length c3, .int .u32 y.imm] y (Hnd.out.weak Hbs.out) w3.heap.size rfl rfl hdl (Nat.le_trans Hbs.out Hb3.out.size) ?_); intro v' w4 hown hgr hat; have Hown := Lib.hid hown; have Hgr := Lib.hid hgr; clear hown hgr hat)
      have hb34 : Below W.heap.size wr w4 := (((Hb3.out.mono Hbs.out).alloc (Nat.le_trans Hbs.out Hb3.out.size) _).grown Hgr.out (by simp; exact Nat.le_succ_of_le (Nat.le_trans Hbs.out Hb3.out.size)) Hvo.out)
      have Hk4 := Lib.hid (show Kpm (fun i => i = gs) W w4 from Hk.out.trans (Kpm.of_belowN hb34) (fun i hi (h : W.heap.size ≤ i) => by omega))
      have hkeep : ∀ (i : Nat) (cur : Array Value) (T : TypeId) (fr : Nat × Nat), w3.heap[i]? = some (.cells cur T fr) → T ≠ 62 → w4.heap[i]? = w3.heap[i]? := fun i cur T fr hc hT => by
        have hlt := (Array.getElem?_eq_some_iff.1 hc).1
        have ha := Below.heap_alloc w3 (.cells [.int .i64 y.op, .int .i64 y.w, .int .i64 y.fl, .slice A3 y.args.length c3, .int .u32 y.imm].toArray 62) i hlt
        refine (Hgr.out.block i (by simp; omega) (fun e => ?_)).trans ha
        obtain ⟨_, cur', fr', hc'⟩ := Ho3.out.row i e.symm
        exact hT (ty_of hc hc')
      have Hs4 := Lib.hid (Hs3.out.keep (hkeep _ _ _ _ Hs3.out.row (by decide)) (hkeep _ _ _ _ Hs3.out.wd (by decide)))
      have HN := Lib.hid (next_any (e := e) Hs4.out)
      clear hb34 hkeep Ho3 Hs3 Hgr Hvo Hnd Hb3
      go_wp2_with fail
      (refine HN.out.mono ?_)
      rintro en w5 hp
      obtain ⟨b, x2, r2, A5, n5, c5, rfl, hs5, hk5, ht5, hm5, hx5, hl5⟩ := hp.told Hs4.out Ht.out.next
      have Hs5 := Lib.hid hs5
      have Hk5 := Lib.hid (show Kpm (fun i => i = gs) W w5 from Hk4.out.trans hk5 (fun i _ h => h))
      have Ht5 := Lib.hid ht5
      have Hm5 := Lib.hid (show ∀ z ∈ r2, z ∈ ws from fun z hz => Hm.out z (hm5 z hz))
      have Hx5 := Lib.hid (show b = true → x2 ∈ ws from fun h => Hm.out x2 (hx5 h))
      have Hl5 := Lib.hid hl5
      have Ho5 := Lib.hid (show OwnR (NdF W.heap.size) W.heap.size w5 v' ((d ++ [x]).map nodeOf) from by
        have h : OwnR (NdF W.heap.size) W.heap.size w4 v' ((d ++ [x]).map nodeOf) := by
          rw [List.map_append]
          have := Hown.out
          rw [Hy.out] at this
          exact this
        have hsg := Hs4.out.row
        have hg : w4.grownBy w5 (some gs) := ⟨hk5.os, hk5.tape, hk5.output, hk5.size, fun i hi hne => hk5.block i hi (fun e => hne (by rw [e]))⟩
        exact h.other hg fun g cur T fr e hc => by
          injection e with e
          subst e
          rw [ty_of hc hsg]
          exact ⟨by decide, by decide⟩)
      clear hp hs5 hk5 ht5 hm5 hx5 hl5 HN Hs4 Hown
      go_wp2_with fail
      go_roundg (gk - 1)
      case measure =>
        have h1 := Hgk.out
        have h2 := Hl.out
        simp only [if_true] at h2
        omega
      case rel =>
        have h1 := Hgk.out
        have h2 := Hl.out
        have h3 := Hl5.out
        simp only [if_true] at h2
        refine ⟨d ++ [x], r2, b, x2, v', A5, n5, c5, rfl, rfl, rfl, ?_, Lib.hid ?_, Ht5, Hs5, Ho5, Hk5, Hm5, Hx5⟩
        · rw [List.length_append, List.length_singleton]; omega
        · rw [List.length_append, List.length_singleton]; omega
end KT
end Go.Proofs.YtbiopedpceddeaaGreatDoor
