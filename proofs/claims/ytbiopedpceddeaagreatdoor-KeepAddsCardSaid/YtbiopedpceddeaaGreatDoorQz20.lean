/- Part. -/
import Derived.Handy
import Derived.Test.YtbiopedpceddeaaGreatDoorQz19
set_option linter.unusedVariables false
set_option linter.unusedSimpArgs false
set_option maxRecDepth 100000
set_option maxHeartbeats 16000000
namespace Go.Proofs.YtbiopedpceddeaaGreatDoor
section
open Go.RowKit Go.Maps Go.Lib
namespace KT
structure Scn (w : World) (gs gw : Nat) (cells : Array Value) (A : Option Addr) (n c : Nat) (r : List (List UInt8)) : Prop where
 row : w.heap[gs]? = some (.cells #[.slice A n c] 109 (0, 0))
 wd : w.heap[gw]? = some (.cells cells 9 (0, 0))
 len : r.length = n
 cap : n ≤ c
 at_ : n = 0 ∨ ∃ off, A = some ⟨gw, off, none⟩ ∧ ∀ (k : Nat) (x : List UInt8), r[k]? = some x → cells[off + k]? = some (.string ⟨x.toArray⟩)
theorem Scn.ne {w : World} {gs gw : Nat} {cells : Array Value} {A : Option Addr} {n c : Nat} {r : List (List UInt8)} (h : Scn w gs gw cells A n c r) : gw ≠ gs := RF.row_ne h.wd h.row (by decide)
theorem Scn.keep {w w' : World} {gs gw : Nat} {cells : Array Value} {A : Option Addr} {n c : Nat} {r : List (List UInt8)} (h : Scn w gs gw cells A n c r) (h1 : w'.heap[gs]? = w.heap[gs]?) (h2 : w'.heap[gw]? = w.heap[gw]?) : Scn w' gs gw cells A n c r :=
 ⟨h1.trans h.row, h2.trans h.wd, h.len, h.cap, h.at_⟩
theorem Scn.below {w w' : World} {gs gw : Nat} {cells : Array Value} {A : Option Addr} {n c : Nat} {r : List (List UInt8)} (h : Scn w gs gw cells A n c r) (hb : Below w.heap.size w w') : Scn w' gs gw cells A n c r :=
 h.keep (hb.block _ (gA h.row).1) (hb.block _ (gA h.wd).1)
theorem infoStr : (Tryz.prog.info? 9).map (fun i => (i.zero, i.size, i.bytes)) = some (some (.string ByteArray.empty), 1, 16) := infoS
def NextPost (W : World) (gs gw : Nat) (cells : Array Value) (r : List (List UInt8)) (e : List UInt8) (en : Ending) (w' : World) : Prop :=
 (r = [] ∧ en = .returned (.tuple #[.string ⟨#[]⟩, .bool false]) ∧ W = w') ∨
 ∃ x r' A n c, r = x :: r' ∧ en = .returned (.tuple #[.string ⟨x.toArray⟩, .bool (x != e)]) ∧ w' = W.setCell ⟨gs, 0, none⟩ (.slice A n c) ∧ Scn w' gs gw cells A n c r'
theorem next_any {W : World} {gs gw : Nat} {cells : Array Value} {A : Option Addr} {n c : Nat} {r : List (List UInt8)} {e : List UInt8} (h : Scn W gs gw cells A n c r) :
 Calls Tryz.prog 285 #[.pointer (some ⟨gs, 0, none⟩), .string ⟨e.toArray⟩] W (NextPost W gs gw cells r e) := by
 have h0 : W.cell? ⟨gs, 0, none⟩ = some (.slice A n c) := by rw [cell_of_row _ _ _ _ _ (0, 0) h.row]; rfl
 have hf := frozen_row h.row 0
 have Hh := kH h
 have hlen := h.len
 cases r with
 | nil =>
  simp only [List.length_nil] at hlen
  subst hlen
  clear h
  go_enter Tryz.func285, Tryz.ntmps285
  go_wp2
  go_ret2
  exact .inl ⟨rfl, rfl, rfl⟩
 | cons x r =>
  obtain ⟨m, rfl⟩ : ∃ m, n = m + 1 := ⟨r.length, by simpa using hlen.symm⟩
  rcases h.at_ with h1 | ⟨off, rfl, hc⟩
  · omega
  have hx : W.cell? ⟨gw, off, none⟩ = some (.string ⟨x.toArray⟩) := by rw [cell_of_row _ _ _ _ _ (0, 0) h.wd]; exact hc 0 x rfl
  have Hc := kH hc
  have hcap := h.cap
  have hsl := run_slice_fromN (P := Tryz.prog) Tryz.underlying106 infoStr gw off (m + 1) c 1 (by omega) W
  simp only [Nat.mul_one, Nat.add_sub_cancel] at hsl
  clear h hc hlen
  go_enter Tryz.func285, Tryz.ntmps285
  go_wp2
  · obtain rfl : m = 0 := by omega
    go_ret2
    refine .inr ⟨x, r, _, _, _, rfl, rfl, rfl, ?_⟩
    have hh := Hh.out
    exact ⟨heap_setCell_same W gs 0 _ _ _ hh.row, (RF.set_block hh.ne (gA hh.wd).1).trans hh.wd, by have := hh.len; simpa using this, by omega, .inl rfl⟩
  · go_ret2
    refine .inr ⟨x, r, _, _, _, rfl, rfl, rfl, ?_⟩
    have hh := Hh.out
    refine ⟨heap_setCell_same W gs 0 _ _ _ hh.row, (RF.set_block hh.ne (gA hh.wd).1).trans hh.wd, by have := hh.len; simpa using this, by omega, .inr ⟨off + 1, rfl, fun k y hy => ?_⟩⟩
    have := Hc.out (k + 1) y (by simpa using hy)
    rw [show off + 1 + k = off + (k + 1) by omega]
    exact this
structure Told (e : List UInt8) (ws d : List (List UInt8)) (b : Bool) (x : List UInt8) (r : List (List UInt8)) : Prop where
 up : upTo e ws = d ++ (if b = true then x :: upTo e r else [])
 past_ : past e ws = (if b = true then past e r else r)
theorem Told.next {e : List UInt8} {ws d r : List (List UInt8)} {x : List UInt8} (h : Told e ws d true x r) :
 (r = [] → Told e ws (d ++ [x]) false [] []) ∧ ∀ y r', r = y :: r' → Told e ws (d ++ [x]) (y != e) y r' := by
 obtain ⟨h1, h2⟩ := h
 rw [if_pos rfl] at h1 h2
 refine ⟨fun er => ?_, fun y r' er => ?_⟩
 · subst er
   exact ⟨by rw [h1]; simp [upTo], by rw [h2]; simp [past]⟩
 · subst er
   by_cases hy : y = e
   · subst hy
     have : (y != y) = false := by simp
     rw [this]
     exact ⟨by rw [h1, upTo, if_pos rfl]; simp, by rw [h2, past, if_pos rfl]; simp⟩
   · have : (y != e) = true := by simpa using hy
     rw [this]
     exact ⟨by rw [h1, upTo, if_neg hy]; simp, by rw [h2, past, if_neg hy]; simp⟩
theorem Told.start (e : List UInt8) (ws : List (List UInt8)) : (ws = [] → Told e ws [] false [] []) ∧ ∀ y r', ws = y :: r' → Told e ws [] (y != e) y r' := by
 refine ⟨fun er => ?_, fun y r' er => ?_⟩
 · subst er
   exact ⟨by simp [upTo], by simp [past]⟩
 · subst er
   by_cases hy : y = e
   · subst hy
     have : (y != y) = false := by simp
     rw [this]
     exact ⟨by rw [upTo, if_pos rfl]; simp, by rw [past, if_pos rfl]; simp⟩
   · have : (y != e) = true := by simpa using hy
     rw [this]
     exact ⟨by rw [upTo, if_neg hy]; simp, by rw [past, if_neg hy]; simp⟩
def NodesPost (W : World) (gs gw : Nat) (cells : Array Value) (e : List UInt8) (ws : List (List UInt8)) (en : Ending) (w' : World) : Prop :=
 ∃ v A n c, en = .returned v ∧ OwnR (NdF W.heap.size) W.heap.size w' v ((upTo e ws).map nodeOf) ∧ Scn w' gs gw cells A n c (past e ws) ∧ Kpm (fun i => i = gs) W w'
theorem NextPost.told {T : Bool → List UInt8 → List (List UInt8) → Prop} {W w' : World} {gs gw : Nat} {cells : Array Value} {A : Option Addr} {n c : Nat} {r : List (List UInt8)} {e : List UInt8} {en : Ending} (h : Scn W gs gw cells A n c r) (hp : NextPost W gs gw cells r e en w') (hT : (r = [] → T false [] []) ∧ ∀ y r', r = y :: r' → T (y != e) y r') :
 ∃ (b : Bool) (x : List UInt8) (r' : List (List UInt8)) (A' : Option Addr) (n' c' : Nat), en = .returned (.tuple #[.string ⟨x.toArray⟩, .bool b]) ∧ Scn w' gs gw cells A' n' c' r' ∧ Kpm (fun i => i = gs) W w' ∧ T b x r' ∧ (∀ y ∈ r', y ∈ r) ∧ (b = true → x ∈ r) ∧ r'.length + (if b = true then 1 else 0) ≤ r.length := by
 rcases hp with ⟨h1, rfl, rfl⟩ | ⟨x, r', A', n', c', h1, rfl, rfl, h2⟩
 · subst h1
   exact ⟨false, [], [], A, n, c, rfl, h, Kpm.refl _ _, hT.1 rfl, fun y hy => hy, fun e => (by cases e), by simp⟩
 · subst h1
   refine ⟨_, x, r', A', n', c', rfl, h2, (Kpm.refl (fun i => i = gs) W).setCell (p := ⟨gs, 0, none⟩) (fun _ => rfl) _, hT.2 x r' rfl, fun y hy => List.mem_cons_of_mem _ hy, fun _ => by simp, ?_⟩
   rw [List.length_cons]
   split <;> omega
theorem nodes_any {W : World} {gs gw : Nat} {cells : Array Value} {A : Option Addr} {n c : Nat} {ws : List (List UInt8)} {e : List UInt8} (h : Scn W gs gw cells A n c ws) (hL : ∀ X, Kpm (fun i => i = gs) W X → Lb X) (hw : ∀ x ∈ ws, x.length ≤ 900000) (hn : ws.length ≤ 900000) :
 Calls Tryz.prog 76 #[.iface 105 (.pointer (some ⟨gs, 0, none⟩)), .string ⟨e.toArray⟩] W (NodesPost W gs gw cells e ws) := by
 have HL := kH hL
 have Hw := kH hw
 have Hn := kH hn
 have Hh := kH h
 have HN := kH (next_any (e := e) h)
 clear h hL hw hn
 go_enter Tryz.func76, Tryz.ntmps76
 go_wp2_with fail
 (refine HN.out.mono ?_)
 rintro en w1 hp
 obtain ⟨b, x, r, A1, n1, c1, rfl, hs1, hk1, ht1, hm1, hx1, hl1⟩ := hp.told Hh.out (Told.start e ws)
 have Hs1 := kH hs1
 have Hk1 := kH hk1
 have Ht1 := kH ht1
 have Hm1 := kH hm1
 have Hx1 := kH hx1
 have Hl1 := kH hl1
 clear hp hs1 hk1 ht1 hm1 hx1 hl1 HN
 go_wp2_with fail
 go_loopg [5, 6, 7] (ws.length + 1) (fun gg s5 s6 s7 wr => ∃ (d r : List (List UInt8)) (b : Bool) (x : List UInt8) (v : Value) (A : Option Addr) (n c : Nat), s5 = v ∧ s6 = .string ⟨x.toArray⟩ ∧ s7 = .bool b ∧ gg + d.length = ws.length + 1 ∧ Hid (r.length + (if b = true then 1 else 0) + d.length ≤ ws.length) ∧ Hid (Told e ws d b x r) ∧ Hid (Scn wr gs gw cells A n c r) ∧ Hid (OwnR (NdF W.heap.size) W.heap.size wr v (d.map nodeOf)) ∧ Hid (Kpm (fun i => i = gs) W wr) ∧ Hid (∀ y ∈ r, y ∈ ws) ∧ Hid (b = true → x ∈ ws))
 case atStart => exact ⟨[], r, b, x, _, A1, n1, c1, rfl, rfl, rfl, rfl, kH (by simpa using Hl1.out), Ht1, Hs1, kH (OwnR.nil_ _ _ _), Hk1, Hm1, Hx1⟩
 case round =>
  clear Hs1 Hk1 Ht1 Hm1 Hx1 Hl1
  obtain ⟨d, r, b, x, v, A, n, c, rfl, rfl, rfl, hgk, Hl, Ht, Hs, Ho, Hk, Hm, Hx⟩ := hrel
  have Hgk := kH hgk
  clear hgk
  cases b with
  | false =>
   go_wp2
   go_ret
   have h1 := Ht.out.up
   have h2 := Ht.out.past_
   simp only [Bool.false_eq_true, if_false, List.append_nil] at h1 h2
   refine ⟨_, A, n, c, rfl, by rw [h1]; exact Ho.out, by rw [h2]; exact Hs.out, Hk.out⟩
  | true =>
   have HNd := kH (node_any (t := x) (Hw.out x (Hx.out rfl)) (HL.out _ Hk.out))
   obtain ⟨y, hy⟩ : ∃ y, y = nodeOf x := ⟨_, rfl⟩
   rw [← hy] at HNd
   have Hy := kH hy
   have hdl : (d.map nodeOf).length ≤ 900000 := by
    have h1 := Hl.out
    have h2 := Hn.out
    rw [List.length_map]
    omega
   have Hbs := kH Hk.out.size
   obtain ⟨Av, cv, hv⟩ := Ho.out.form
   rw [List.length_map] at hv
   subst hv
   clear hy
   go_wp2_with fail
   (refine HNd.out.mono ?_)
   rintro en w3 ⟨A3, c3, rfl, hnd, hb3⟩
   have Hnd := kH hnd
   have Hb3 := kH hb3
   have Ho3 := kH (Ho.out.below (ndF_rel _) hb3)
   have Hs3 := kH (Hs.out.below hb3)
   have Hvo := kH (fun g hg => (Ho.out.row g hg).1)
   clear hnd hb3 HNd
   go_wp2_with (at_builtin; go_loud (refine wpList_append_nodeR3 (ndF_rel _) rfl (.tmp 21) (.tmp 24) rfl (.slice Av d.length cv) (d.map nodeOf) rfl Ho3.out [.int .i64 y.op, .int .i64 y.w, .int .i64 y.fl, .slice A3 y.args.length c3, .int .u32 y.imm] y (Hnd.out.weak Hbs.out) w3.heap.size rfl rfl hdl (Nat.le_trans Hbs.out Hb3.out.size) ?_); intro v' w4 hown hgr hat; have Hown := kH hown; have Hgr := kH hgr; clear hown hgr hat)
   have hb34 : Below W.heap.size wr w4 := (((Hb3.out.mono Hbs.out).alloc (Nat.le_trans Hbs.out Hb3.out.size) _).grown Hgr.out (by simp; exact Nat.le_succ_of_le (Nat.le_trans Hbs.out Hb3.out.size)) Hvo.out)
   have Hk4 := kH (show Kpm (fun i => i = gs) W w4 from Hk.out.trans (Kpm.of_belowN hb34) (fun i hi (h : W.heap.size ≤ i) => by omega))
   have hkeep : ∀ (i : Nat) (cur : Array Value) (T : TypeId) (fr : Nat × Nat), w3.heap[i]? = some (.cells cur T fr) → T ≠ 62 → w4.heap[i]? = w3.heap[i]? := fun i cur T fr hc hT => by
    have hlt := (gA hc).1
    have ha := Below.heap_alloc w3 (.cells [.int .i64 y.op, .int .i64 y.w, .int .i64 y.fl, .slice A3 y.args.length c3, .int .u32 y.imm].toArray 62) i hlt
    refine (Hgr.out.block i (by simp; omega) (fun e => ?_)).trans ha
    obtain ⟨_, cur', fr', hc'⟩ := Ho3.out.row i e.symm
    exact hT (ty_of hc hc')
   have Hs4 := kH (Hs3.out.keep (hkeep _ _ _ _ Hs3.out.row (by decide)) (hkeep _ _ _ _ Hs3.out.wd (by decide)))
   have HN := kH (next_any (e := e) Hs4.out)
   clear hb34 hkeep Ho3 Hs3 Hgr Hvo Hnd Hb3
   go_wp2_with fail
   (refine HN.out.mono ?_)
   rintro en w5 hp
   obtain ⟨b, x2, r2, A5, n5, c5, rfl, hs5, hk5, ht5, hm5, hx5, hl5⟩ := hp.told Hs4.out Ht.out.next
   have Hs5 := kH hs5
   have Hk5 := kH (show Kpm (fun i => i = gs) W w5 from Hk4.out.trans hk5 (fun i _ h => h))
   have Ht5 := kH ht5
   have Hm5 := kH (show ∀ z ∈ r2, z ∈ ws from fun z hz => Hm.out z (hm5 z hz))
   have Hx5 := kH (show b = true → x2 ∈ ws from fun h => Hm.out x2 (hx5 h))
   have Hl5 := kH hl5
   have Ho5 := kH (show OwnR (NdF W.heap.size) W.heap.size w5 v' ((d ++ [x]).map nodeOf) from by
    have h : OwnR (NdF W.heap.size) W.heap.size w4 v' ((d ++ [x]).map nodeOf) := by
     rw [List.map_append]
     have := Hown.out
     rw [Hy.out] at this
     exact this
    have hsg := Hs4.out.row
    have hg : w4.grownBy w5 (some gs) := ⟨hk5.os, hk5.tape, hk5.output, hk5.size, fun i hi hne => hk5.block i hi (fun e => hne (by rw [e]))⟩
    exact h.other hg fun g cur T fr e hc => by
     injection e with e
     subst e
     rw [ty_of hc hsg]
     exact ⟨by decide, by decide⟩)
   clear hp hs5 hk5 ht5 hm5 hx5 hl5 HN Hs4 Hown
   go_wp2_with fail
   go_roundg (gk - 1)
   case measure =>
    have h1 := Hgk.out
    have h2 := Hl.out
    simp only [if_true] at h2
    omega
   case rel =>
    have h1 := Hgk.out
    have h2 := Hl.out
    have h3 := Hl5.out
    simp only [if_true] at h2
    refine ⟨d ++ [x], r2, b, x2, v', A5, n5, c5, rfl, rfl, rfl, ?_, kH ?_, Ht5, Hs5, Ho5, Hk5, Hm5, Hx5⟩
    · rw [List.length_append, List.length_singleton]; omega
    · rw [List.length_append, List.length_singleton]; omega
end KT
end
section
open Go.RowKit Go.Maps Go.Lib
namespace KT
theorem grown_of_kpm {gs : Nat} {w w' : World} (k : Kpm (fun i => i = gs) w w') : w.grownBy w' (some gs) := ⟨k.os, k.tape, k.output, k.size, fun i hi hne => k.block i hi (fun e => hne (by rw [e]))⟩
theorem RdSt.scn {B gr gs : Nat} {vl vr vp : Value} {q : R.Rl} {W w w' : World} {c1 : Array Value} {f1 : Nat × Nat} (h : RdSt B gr vl vr vp q W w) (hk : Kpm (fun i => i = gs) w w') (hs : w.heap[gs]? = some (.cells c1 109 f1)) (hB : B ≤ gs) (hB2 : B ≤ w.heap.size) : RdSt B gr vl vr vp q W w' := by
 have hg := grown_of_kpm hk
 have key : ∀ g cur T fr, some gs = some g → w.heap[g]? = some (.cells cur T fr) → T = 109 := fun g cur T fr e hc => by
  injection e with e
  subst e
  exact ty_of hc hs
 exact ⟨h.lo, (hk.block gr h.lt (RF.row_ne h.row hs (by decide))).trans h.row, ⟨h.own.ol.other hg fun g cur T fr e hc => by rw [key g cur T fr e hc]; exact ⟨by decide, by decide⟩, h.own.or_.other hg fun g cur T fr e hc => by rw [key g cur T fr e hc]; exact ⟨by decide, by decide⟩, h.own.op.other hg fun g cur T fr e hc => by rw [key g cur T fr e hc]; decide⟩, h.ne, h.b.trans (hk.below hB2 fun i (e : i = gs) => by omega)⟩
theorem RdSt.set0 {B gr : Nat} {vr vp v1 : Value} {q : R.Rl} {W w : World} {l : List T.Nd} (h : RdSt B gr (.slice none 0 0) vr vp q W w) (ho : OwnR (NdF B) B w v1 l) (hne : ∀ g, v1.ownBlock = some g → vr.ownBlock ≠ some g) : RdSt B gr v1 vr vp { q with left := l } W (w.setCell ⟨gr, 0, none⟩ v1) := by
 have hs := setCell_grown w gr 0 v1
 have hnew : (w.setCell ⟨gr, 0, none⟩ v1).heap[gr]? = some (.cells #[v1, vr, vp] 33 (0, 0)) := by
  have := heap_setCell_same w gr 0 _ _ v1 h.row
  rw [this]
  rfl
 exact ⟨h.lo, hnew, ⟨ho.other hs fun g cur T fr e hc => by rw [rule_ne e h.row hc]; exact ⟨by decide, by decide⟩, h.own.or_.other hs fun g cur T fr e hc => by rw [rule_ne e h.row hc]; exact ⟨by decide, by decide⟩, h.own.op.other hs fun g cur T fr e hc => by rw [rule_ne e h.row hc]; decide⟩, hne, h.b.setCell (p := ⟨gr, 0, none⟩) h.lo _⟩
theorem RdSt.set1 {B gr : Nat} {vl vp v1 : Value} {q : R.Rl} {W w : World} {l : List T.Nd} (h : RdSt B gr vl (.slice none 0 0) vp q W w) (ho : OwnR (NdF B) B w v1 l) (hne : ∀ g, vl.ownBlock = some g → v1.ownBlock ≠ some g) : RdSt B gr vl v1 vp { q with right := l } W (w.setCell ⟨gr, 1, none⟩ v1) := by
 have hs := setCell_grown w gr 1 v1
 have hnew : (w.setCell ⟨gr, 1, none⟩ v1).heap[gr]? = some (.cells #[vl, v1, vp] 33 (0, 0)) := by
  have := heap_setCell_same w gr 1 _ _ v1 h.row
  rw [this]
  rfl
 exact ⟨h.lo, hnew, ⟨h.own.ol.other hs fun g cur T fr e hc => by rw [rule_ne e h.row hc]; exact ⟨by decide, by decide⟩, ho.other hs fun g cur T fr e hc => by rw [rule_ne e h.row hc]; exact ⟨by decide, by decide⟩, h.own.op.other hs fun g cur T fr e hc => by rw [rule_ne e h.row hc]; decide⟩, hne, h.b.setCell (p := ⟨gr, 1, none⟩) h.lo _⟩
theorem results_rl2 {fn : Func} {c t : Tmp} (h : fn.results = #[.cell c 33, .tmp t]) (tmps : Array Value) (w : World) (g : Nat) (a0 a1 a2 : Value) (hc : tmps.getD c undef = .pointer (some ⟨g, 0, none⟩)) (hr : w.heap[g]? = some (.cells #[a0, a1, a2] 33 (0, 0))) :
 (results fn tmps).run Tryz.prog w = .ok (.tuple #[.agg #[a0, a1, a2], tmps.getD t undef]) w := by
 obtain ⟨c0, c1, c2, _⟩ := rl_cells hr
 have hz : Tryz.prog.cellsOf 33 = 3 := by kernel_rfl
 simp only [Array.getD_eq_getD_getElem?] at hc
 simp [results, h, hc, go_sem, c0, c1, c2]
theorem flr_of {l : List T.Nd} (h : ∀ x ∈ l, NdS x) : R.flr l := fun x hx => by
 have := (h x hx).fl
 exact ⟨by have := this.1; omega, by have := this.2; omega⟩
theorem upTo_len (e : List UInt8) : ∀ ws : List (List UInt8), (upTo e ws).length ≤ ws.length ∧ (past e ws).length ≤ ws.length ∧ ∀ x ∈ past e ws, x ∈ ws := by
 intro ws
 induction ws with
 | nil => exact ⟨by simp [upTo], by simp [past], fun x h => h⟩
 | cons y ws ih =>
  obtain ⟨h1, h2, h3⟩ := ih
  rw [upTo, past]
  split
  · exact ⟨by simp, by simp, fun x h => List.mem_cons_of_mem _ h⟩
  · exact ⟨by simp; omega, by simp; omega, fun x h => List.mem_cons_of_mem _ (h3 x h)⟩
def ParsePost (W : World) (s : List UInt8) (e : Ending) (w' : World) : Prop :=
 ∃ (v1 v2 v3 : Value) (r : R.Rl) (code : Int), e = .returned (.tuple #[.agg #[v1, v2, v3], .int .i64 code]) ∧ OwnRl W.heap.size w' v1 v2 v3 r ∧ R.flr r.left ∧ R.flr r.right ∧ Below W.heap.size W w' ∧ ((parse s = some r ∧ code = 0) ∨ (parse s = none ∧ code = 2 ∧ r = ⟨[], [], []⟩))
theorem Parse_any {t : List UInt8} (ht : t.length ≤ 800000) {W : World} (hL : Lb W) :
 Calls Tryz.prog 26 #[.string ⟨t.toArray⟩] W (ParsePost W t) := by
 obtain ⟨W1, hW1⟩ : ∃ W1, W1 = W.alloc (.cells #[.slice none 0 0, .slice none 0 0, .slice none 0 0] 33) := ⟨_, rfl⟩
 have hb1 : Below W.heap.size W W1 := by rw [hW1]; exact al0
 have hr1 : W1.heap[W.heap.size]? = some (.cells #[.slice none 0 0, .slice none 0 0, .slice none 0 0] 33 (0, 0)) := by rw [hW1]; exact heap_alloc_new W _
 obtain ⟨ws, hws⟩ : ∃ ws, ws = Lib.split t [32] := ⟨_, rfl⟩
 have HC := kH (Split_row (s := t) (c := 32) (by omega) (hL.below hb1).mlen)
 rw [← hws] at HC
 have Hsz := kH (show ws.length ≤ 800001 ∧ ∀ x ∈ ws, x.length ≤ 900000 from by
  rw [hws]
  refine ⟨by have := split_size (c := 32) (s := t); omega, fun x hx => ?_⟩
  have := splitK_mem _ _ _ _ hx
  omega)
 obtain ⟨cand, hcand⟩ : ∃ r, r = candP t := ⟨_, rfl⟩
 have Hcand := kH (show cand = ⟨(upTo arrow ws).map nodeOf, (upTo iff_ (past arrow ws)).map nodeOf, (upTo [] (past iff_ (past arrow ws))).map condOf⟩ from by rw [hcand, hws]; rfl)
 have HRS := kH (show RlS cand from by rw [hcand]; exact candP_S t)
 have Hpa := kH (show parse t = if R.rvalid cand = 0 ∧ textW cand = t then some cand else none from by rw [hcand]; rfl)
 have HL := kH (fun X (h : Below W.heap.size W X) => hL.below h)
 have HB1 := kH hb1
 have Hr1 := kH hr1
 have HW1 := kH hW1
 clear hL hb1 hr1 hws hW1 hcand
 go_enter Tryz.func26, Tryz.ntmps26
 go_upto_region 1 with (fail)
 rw [← HW1.out]
 go_wp2_with fail
 (with_reducible refine HC.out.mono ?_)
 rintro e w2 ⟨rfl, hrw, hb2⟩
 obtain ⟨n, hn⟩ : ∃ n, n = ws.length := ⟨_, rfl⟩
 obtain ⟨gw, hgw⟩ : ∃ gw, gw = W1.heap.size := ⟨_, rfl⟩
 have Hn := kH hn
 have Hrw := kH hrw
 have Hb2 := kH (HB1.out.trans (hb2.mono HB1.out.size))
 have Hr2 := kH ((hb2.block _ (gA Hr1.out).1).trans Hr1.out)
 rw [← hgw] at Hrw ⊢
 rw [← hn]
 obtain ⟨gs, hgs⟩ : ∃ gs, gs = w2.heap.size := ⟨_, rfl⟩
 obtain ⟨gr, hgr⟩ : ∃ gr, gr = w2.heap.size + 1 := ⟨_, rfl⟩
 obtain ⟨w4, hw4⟩ : ∃ w4, w4 = (w2.alloc (.cells #[.slice (some ⟨gw, 0, none⟩) n n] 109)).alloc (.cells #[.slice none 0 0, .slice none 0 0, .slice none 0 0] 33) := ⟨_, rfl⟩
 have hb4 : Below w2.heap.size w2 w4 := by rw [hw4]; exact (al0).alloc (by simp) _
 have Hs4 := kH (show Scn w4 gs gw (ss ws).toArray (some ⟨gw, 0, none⟩) n n ws from ⟨by rw [hw4, hgs]; exact row_alloc (heap_alloc_new w2 _) _, (hb4.block _ (gA Hrw.out).1).trans Hrw.out, hn.symm, Nat.le_refl _, .inr ⟨0, rfl, fun k x hx => by simp [ss, hx]⟩⟩)
 have Hb4 := kH (Hb2.out.trans (hb4.mono Hb2.out.size))
 have HR4 := kH (show RdSt W.heap.size gr (.slice none 0 0) (.slice none 0 0) (.slice none 0 0) ⟨[], [], []⟩ W w4 from ⟨by have := Hb2.out.size; omega, by rw [hw4, hgr]; exact new_two w2 _ _, OwnRl.nil_ _ _, fun g e => by simp [Value.ownBlock] at e, Hb4.out⟩)
 have Hr4 := kH ((hb4.block _ (gA Hr2.out).1).trans Hr2.out)
 have Hg := kH (show W.heap.size ≤ gs ∧ W.heap.size ≠ gr ∧ W.heap.size < gs from by have h1 := (gA Hr2.out).1; exact ⟨by omega, by omega, by omega⟩)
 have HLs := kH (show ∀ w, Below W.heap.size W w → ∀ X, Kpm (fun i => i = gs) w X → Lb X from fun w hb X hk => HL.out X (hb.trans (hk.below hb.size fun i (e : i = gs) => by have := Hg.out.1; omega)))
 have HN := kH (nodes_any (e := [61, 62]) Hs4.out (HLs.out _ Hb4.out) Hsz.out.2 (by have := Hsz.out.1; omega))
 clear hrw hb2 HC hn hgw hb4
 go_upto_region 3 with (fail)
 first | rw [← hw4, ← hgr, ← hgs] | (simp only [← hw4, ← hgr, ← hgs])
 clear hw4 hgs hgr
 go_wp2_with fail
 (refine HN.out.mono ?_)
 rintro e w5 ⟨v1, A5, n5, c5, rfl, ho5, hs5, hk5⟩
 obtain ⟨A1, kA, e1⟩ := ho5.form
 rw [List.length_map] at e1
 obtain ⟨m1, hm1⟩ : ∃ m, m = (upTo [61, 62] ws).length := ⟨_, rfl⟩
 rw [← hm1] at e1
 subst e1
 have HR5 := kH (HR4.out.scn hk5 Hs4.out.row Hg.out.1 Hb4.out.size)
 have Ho5 := kH (ho5.weak Hb4.out.size)
 have Hs5 := kH hs5
 have Hr5 := kH ((hk5.block W.heap.size (gA Hr4.out).1 (by have := Hg.out.2.2; omega)).trans Hr4.out)
 have Hm1 := kH hm1
 clear ho5 hs5 hk5 HN hm1
 obtain ⟨z0, z1, z2, zf⟩ := rl_cells HR5.out.row
 have zf0 := zf 0
 clear zf
 obtain ⟨w6, hw6⟩ : ∃ w6, w6 = w5.setCell ⟨gr, 0, none⟩ (.slice A1 m1 kA) := ⟨_, rfl⟩
 have HR6 := kH (show RdSt W.heap.size gr (.slice A1 m1 kA) (.slice none 0 0) (.slice none 0 0) ⟨(upTo [61, 62] ws).map nodeOf, [], []⟩ W w6 from by rw [hw6]; exact HR5.out.set0 Ho5.out (fun g _ e => by simp [Value.ownBlock] at e))
 have Hs6 := kH (show Scn w6 gs gw (ss ws).toArray A5 n5 c5 (past [61, 62] ws) from by rw [hw6]; exact Hs5.out.keep (RF.set_block (RF.row_ne Hs5.out.row HR5.out.row (by decide)) (gA Hs5.out.row).1) (RF.set_block (RF.row_ne Hs5.out.wd HR5.out.row (by decide)) (gA Hs5.out.wd).1))
 have Hr6 := kH (show w6.heap[W.heap.size]? = some (.cells #[.slice none 0 0, .slice none 0 0, .slice none 0 0] 33 (0, 0)) from by rw [hw6]; exact (RF.set_block Hg.out.2.1 (gA Hr5.out).1).trans Hr5.out)
 obtain ⟨wt, hwt⟩ : ∃ wt, wt = past [61, 62] ws := ⟨_, rfl⟩
 have Hwt := kH hwt
 have Hsw := kH (show wt.length ≤ 800001 ∧ ∀ x ∈ wt, x.length ≤ 900000 from by
  rw [hwt]
  obtain ⟨_, h2, h3⟩ := upTo_len [61, 62] ws
  exact ⟨by have := Hsz.out.1; omega, fun x hx => Hsz.out.2 x (h3 x hx)⟩)
 rw [← hwt] at Hs6
 have HN := kH (nodes_any (e := [105, 102]) Hs6.out (HLs.out _ HR6.out.b) Hsw.out.2 (by have := Hsw.out.1; omega))
 go_upto_region 4 with (fail)
 rw [← hw6]
 clear hw6 hwt z0 z1 z2 zf0 HR5 Ho5 Hs5 Hr5
 go_wp2_with fail
 (refine HN.out.mono ?_)
 rintro e w7 ⟨v2, A7, n7, c7, rfl, ho7, hs7, hk7⟩
 obtain ⟨A2, kB, e2⟩ := ho7.form
 rw [List.length_map] at e2
 obtain ⟨m2, hm2⟩ : ∃ m, m = (upTo [105, 102] wt).length := ⟨_, rfl⟩
 rw [← hm2] at e2
 subst e2
 have HR7 := kH (HR6.out.scn hk7 Hs6.out.row Hg.out.1 HR6.out.b.size)
 have Hne := kH (show ∀ g, (Value.slice A1 m1 kA).ownBlock = some g → (Value.slice A2 m2 kB).ownBlock ≠ some g from fun g e1 e2 => by
  have h1 := ownR_lt HR6.out.own.ol g e1
  have h2 := (ho7.row g e2).1
  omega)
 have Ho7 := kH (ho7.weak HR6.out.b.size)
 have Hs7 := kH hs7
 have Hr7 := kH ((hk7.block W.heap.size (gA Hr6.out).1 (by have := Hg.out.2.2; omega)).trans Hr6.out)
 have Hm2 := kH hm2
 clear ho7 hs7 hk7 HN hm2
 obtain ⟨z0, z1, z2, zf⟩ := rl_cells HR7.out.row
 have zf1 := zf 1
 clear zf
 obtain ⟨w8, hw8⟩ : ∃ w8, w8 = w7.setCell ⟨gr, 1, none⟩ (.slice A2 m2 kB) := ⟨_, rfl⟩
 have HR8 := kH (show RdSt W.heap.size gr (.slice A1 m1 kA) (.slice A2 m2 kB) (.slice none 0 0) ⟨(upTo [61, 62] ws).map nodeOf, (upTo [105, 102] wt).map nodeOf, []⟩ W w8 from by rw [hw8]; exact HR7.out.set1 Ho7.out Hne.out)
 obtain ⟨wu, hwu⟩ : ∃ wu, wu = past [105, 102] wt := ⟨_, rfl⟩
 have Hs8 := kH (show Scn w8 gs gw (ss ws).toArray A7 n7 c7 wu from by rw [hw8, hwu]; exact Hs7.out.keep (RF.set_block (RF.row_ne Hs7.out.row HR7.out.row (by decide)) (gA Hs7.out.row).1) (RF.set_block (RF.row_ne Hs7.out.wd HR7.out.row (by decide)) (gA Hs7.out.wd).1))
 have Hr8 := kH (show w8.heap[W.heap.size]? = some (.cells #[.slice none 0 0, .slice none 0 0, .slice none 0 0] 33 (0, 0)) from by rw [hw8]; exact (RF.set_block Hg.out.2.1 (gA Hr7.out).1).trans Hr7.out)
 have Hsu := kH (show wu.length ≤ 800001 ∧ ∀ x ∈ wu, x.length ≤ 900000 from by
  rw [hwu]
  obtain ⟨_, h2, h3⟩ := upTo_len [105, 102] wt
  exact ⟨by have := Hsw.out.1; omega, fun x hx => Hsw.out.2 x (h3 x hx)⟩)
 have Hwu := kH hwu
 obtain ⟨L, hLd⟩ : ∃ L, L = (upTo [61, 62] ws).map nodeOf := ⟨_, rfl⟩
 obtain ⟨Q, hQd⟩ : ∃ Q, Q = (upTo [105, 102] wt).map nodeOf := ⟨_, rfl⟩
 rw [← hLd, ← hQd] at HR8
 have Hcd := kH (show cand = ⟨L, Q, (upTo [] wu).map condOf⟩ from by rw [Hcand.out, hLd, hQd, hwu, Hwt.out]; rfl)
 have Hll := kH (show L.length = m1 from by rw [hLd, List.length_map, Hm1.out])
 have Hlq := kH (show Q.length = m2 from by rw [hQd, List.length_map, Hm2.out])
 have HN := kH (next_any (e := []) Hs8.out)
 go_upto_region 5 with (fail)
 rw [← hw8]
 clear hw8 hwu hLd hQd z0 z1 z2 zf1 HR7 Ho7 Hs7 Hr7
 go_wp2_with fail
 (refine HN.out.mono ?_)
 rintro en w9 hp
 obtain ⟨b, x, r, A9, n9, c9, rfl, hs9, hk9, ht9, hm9, hx9, hl9⟩ := hp.told Hs8.out (Told.start [] wu)
 have Hs9 := kH hs9
 have HR9 := kH (HR8.out.scn hk9 Hs8.out.row Hg.out.1 HR8.out.b.size)
 have Hr9 := kH ((hk9.block W.heap.size (gA Hr8.out).1 (by have := Hg.out.2.2; omega)).trans Hr8.out)
 have Ht9 := kH ht9
 have Hm9 := kH hm9
 have Hx9 := kH hx9
 have Hl9 := kH hl9
 clear hp hs9 hk9 ht9 hm9 hx9 hl9 HN
 go_wp2_with fail
 go_loopg [6, 7] (wu.length + 1) (fun gg s6 s7 wr => ∃ (d r : List (List UInt8)) (b : Bool) (x : List UInt8) (vp : Value) (A : Option Addr) (n c : Nat), s6 = .string ⟨x.toArray⟩ ∧ s7 = .bool b ∧ gg + d.length = wu.length + 1 ∧ Hid (r.length + (if b = true then 1 else 0) + d.length ≤ wu.length) ∧ Hid (Told [] wu d b x r) ∧ Hid (Scn wr gs gw (ss ws).toArray A n c r) ∧ Hid (RdSt W.heap.size gr (.slice A1 m1 kA) (.slice A2 m2 kB) vp ⟨L, Q, d.map condOf⟩ W wr) ∧ Hid (wr.heap[W.heap.size]? = some (.cells #[.slice none 0 0, .slice none 0 0, .slice none 0 0] 33 (0, 0))) ∧ Hid (∀ y ∈ r, y ∈ wu) ∧ Hid (b = true → x ∈ wu))
 case atStart => exact ⟨[], r, b, x, _, A9, n9, c9, rfl, rfl, rfl, kH (by simpa using Hl9.out), Ht9, Hs9, HR9, Hr9, Hm9, Hx9⟩
 case round =>
  clear Hs9 HR9 Hr9 Ht9 Hm9 Hx9 Hl9 Hs8 HR8 Hr8
  obtain ⟨d, r, b, x, vp, A, n, c, rfl, rfl, hgk, Hl, Ht, Hs, HR, Hr, Hm, Hx⟩ := hrel
  have Hgk := kH hgk
  clear hgk
  obtain ⟨Ap, cp, hv⟩ := HR.out.own.op.form
  rw [List.length_map] at hv
  subst hv
  cases b with
  | false =>
   have hup := Ht.out.up
   simp only [Bool.false_eq_true, if_false, List.append_nil] at hup
   have hce : (⟨L, Q, d.map condOf⟩ : R.Rl) = cand := by rw [Hcd.out, hup]
   rw [hce] at HR
   have hdl : d.length = cand.pre.length := by rw [← hce]; exact (List.length_map ..).symm
   have hl1 : cand.left.length = m1 := by rw [← hce]; exact Hll.out
   have hl2 : cand.right.length = m2 := by rw [← hce]; exact Hlq.out
   have fl := flr_of HRS.out.left
   have fr := flr_of HRS.out.right
   have hRl : RlAt wr cand m1 m2 d.length A1 A2 Ap := ⟨HR.out.own.ol.stAt (ndF_rel _) hl1, HR.out.own.or_.stAt (ndF_rel _) hl2, HR.out.own.op.stAt hdl.symm, fl, fr⟩
   have HV := kH (gValidate_any cand m1 kA m2 kB d.length cp A1 A2 Ap wr hRl.sl hRl.sr hRl.sp fl fr)
   have HRl := kH hRl
   have Hfl := kH fl
   have Hfr := kH fr
   have Hs1 := kH HR.out.b.size
   obtain ⟨z0, z1, z2, _⟩ := rl_cells HR.out.row
   clear hup hce hdl hl1 hl2 fl fr hRl Hs Ht Hm Hx
   by_cases hv : R.rvalid cand = 0
   rotate_left
   · have Hpn := kH (show parse t = none from by rw [Hpa.out, if_neg (fun h => hv h.1)])
     obtain ⟨z, hz⟩ : ∃ z, R.rvalid cand = z := ⟨_, rfl⟩
     rw [hz] at HV hv
     have q : (z != 0) = true := by simpa using hv
     clear hv hz
     go_wp2_with fail
     (with_reducible refine HV.out.mono ?_)
     rintro e w2 ⟨rfl, hb2⟩
     have Hb2 := kH (HR.out.b.trans (hb2.mono Hs1.out))
     have hr2 := (hb2.block _ (gA Hr.out).1).trans Hr.out
     have Hr2 := kH hr2
     obtain ⟨y0, y1, y2, yf⟩ := rl_cells hr2
     have yf0 := yf 0
     have yf1 := yf 1
     have yf2 := yf 2
     clear hb2 HV z0 z1 z2 hr2 yf
     go_wp2_with fail
     (try simp only [Exit.inBlock, Exit.then])
     refine bodyPost_ret (results_rl2 rfl _ _ W.heap.size _ _ _ rfl (set3_row _ _ _ Hr2.out)) rfl ?_
     exact ⟨_, _, _, ⟨[], [], []⟩, 2, rfl, OwnRl.nil_ _ _, fun x h => (by cases h), fun x h => (by cases h), set3_below _ _ _ Hb2.out (Nat.le_refl _), .inr ⟨Hpn.out, rfl, rfl⟩⟩
   · have hwr := wrt_of_valid (us := [.slice A1 m1 kA, .slice A2 m2 kB, .slice Ap d.length cp]) ⟨m1, kA, m2, kB, d.length, cp, A1, A2, Ap, rfl, HRl.out⟩ hv
     have hnl := HRl.out.sl.len
     have hnr := HRl.out.sr.len
     have hnp := HRl.out.sp.len
     have k1 := hwr.nl
     have k2 := hwr.nr
     have k3 := hwr.np
     have HX := kH (fun X (h : Below wr.heap.size wr X) => written_any (cl := kA) (cr := kB) (cp := cp) (HRl.out.below h) (HL.out X (HR.out.b.trans (h.mono Hs1.out))).tens (by omega) (by omega) (by omega) hwr.l hwr.q hwr.p)
     rw [hv] at HV
     have Hv := kH hv
     obtain ⟨tx, htx⟩ : ∃ tx, tx = textW cand := ⟨_, rfl⟩
     rw [← htx] at HX
     have Htx := kH htx
     clear hv hwr hnl hnr hnp k1 k2 k3 htx
     go_wp2_with fail
     (with_reducible refine HV.out.mono ?_)
     rintro e w2 ⟨rfl, hb2⟩
     have Hb2 := kH hb2
     have hz := (hb2.block _ HR.out.lt).trans HR.out.row
     clear hb2 HV z0 z1 z2
     obtain ⟨z0, z1, z2, _⟩ := rl_cells hz
     clear hz
     go_wp2_with fail
     (with_reducible refine (HX.out _ Hb2.out).mono ?_)
     rintro e w3 ⟨rfl, hb3⟩
     have Hb3 := kH (Hb2.out.trans (hb3.mono Hb2.out.size))
     have hz := (Hb3.out.block _ HR.out.lt).trans HR.out.row
     have hr2 := (Hb3.out.block _ (gA Hr.out).1).trans Hr.out
     have Hr2 := kH hr2
     clear hb3 z0 z1 z2
     obtain ⟨z0, z1, z2, _⟩ := rl_cells hz
     obtain ⟨y0, y1, y2, yf⟩ := rl_cells hr2
     have yf0 := yf 0
     have yf1 := yf 1
     have yf2 := yf 2
     clear hz hr2 yf
     by_cases he : tx = t
     · have Hps := kH (show parse t = some cand from by rw [Hpa.out, if_pos ⟨Hv.out, by rw [← Htx.out]; exact he⟩])
       subst he
       have q : (tx == tx) = true := by simp
       go_wp2_with fail
       (try simp only [Exit.inBlock, Exit.then])
       refine bodyPost_ret (results_rl2 rfl _ _ W.heap.size _ _ _ rfl (set3_row _ _ _ Hr2.out)) rfl ?_
       exact ⟨_, _, _, cand, 0, rfl, (HR.out.own.below Hb3.out).set3 _ _ _ Hr2.out, Hfl.out, Hfr.out, set3_below _ _ _ (HR.out.b.trans (Hb3.out.mono Hs1.out)) (Nat.le_refl _), .inl ⟨Hps.out, rfl⟩⟩
     · have Hps := kH (show parse t = none from by rw [Hpa.out, if_neg (fun h => he (Htx.out.trans h.2))])
       have q : (tx == t) = false := by simpa using he
       clear he
       go_wp2_with fail
       (try simp only [Exit.inBlock, Exit.then])
       refine bodyPost_ret (results_rl2 rfl _ _ W.heap.size _ _ _ rfl (set3_row _ _ _ Hr2.out)) rfl ?_
       exact ⟨_, _, _, ⟨[], [], []⟩, 2, rfl, OwnRl.nil_ _ _, fun x h => (by cases h), fun x h => (by cases h), set3_below _ _ _ (HR.out.b.trans (Hb3.out.mono Hs1.out)) (Nat.le_refl _), .inr ⟨Hps.out, rfl, rfl⟩⟩
  | true =>
   have hL := HL.out _ HR.out.b
   have HP := kH (show Calls Tryz.prog 77 #[.string ⟨x.toArray⟩, .int .i64 3] wr fun e w' => ∃ v, e = .returned v ∧ OwnAt w' 3 1 v 3 ((partsOf x 3).map (Value.int .i64)) ∧ Below wr.heap.size wr w' ∧ ∀ i, v.ownBlock = some i → wr.heap.size ≤ i from parts_any (t := x) (n := 3) (by have := Hsu.out.2 x (Hx.out rfl); omega) (by omega) (by omega) hL)
   clear hL
   go_wp2_with fail
   (with_reducible refine HP.out.mono ?_)
   rintro e w3 ⟨v, rfl, hown, hb3, hnw⟩
   obtain ⟨Av, cv, ev⟩ := hown.form
   subst ev
   obtain ⟨a0, ha0⟩ : ∃ a, a = (partsOf x 3).getD 0 0 := ⟨_, rfl⟩
   obtain ⟨a1, ha1⟩ : ∃ a, a = (partsOf x 3).getD 1 0 := ⟨_, rfl⟩
   obtain ⟨a2, ha2⟩ : ∃ a, a = (partsOf x 3).getD 2 0 := ⟨_, rfl⟩
   have hpl := partsOf_len (s := x) (n := 3) (by omega)
   obtain ⟨gv, ov, rfl, k0, curv, hgv⟩ := own_cellr hown (getD_some (show 0 < _ by omega))
   obtain ⟨_, _, e, k1, _⟩ := own_cellr hown (getD_some (show 1 < _ by omega))
   cases e
   obtain ⟨_, _, e, k2, _⟩ := own_cellr hown (getD_some (show 2 < _ by omega))
   cases e
   have ha2r := parts_u x 3 2
   rw [← ha0] at k0
   rw [← ha1] at k1
   rw [← ha2] at k2 ha2r
   have Hy := kH (show condOf x = ⟨a0, a1, a2⟩ from by unfold condOf; rw [← ha0, ← ha1, ← ha2])
   have HsB := kH (Hs.out.below hb3)
   have HrB := kH ((hb3.block _ (gA Hr.out).1).trans Hr.out)
   have HRB := kH (HR.out.below HR.out.b.size hb3)
   have hB := kH HRB.out.b.size
   have hwr : IntKind.u32.wrap a2 = a2 := by rw [IntKind.wrap_u32]; have := ha2r.1; have := ha2r.2; omega
   have Ha2 := kH (show 0 ≤ a2 ∧ a2 < 4294967296 from ha2r)
   have Hgv := kH hgv
   simp only [Nat.add_zero] at k0
   obtain ⟨np, hnp⟩ : ∃ np, np = d.length := ⟨_, rfl⟩
   have Hnp := kH (show ((⟨L, Q, d.map condOf⟩ : R.Rl)).pre.length = np from by rw [hnp]; exact List.length_map ..)
   have hnb : np + 1 ≤ 1000000000 := by have h1 := Hl.out; have h2 := Hsu.out.1; omega
   rw [← hnp] at HRB
   obtain ⟨q, hq⟩ : ∃ q : R.Rl, q = ⟨L, Q, d.map condOf⟩ := ⟨_, rfl⟩
   rw [← hq] at HRB Hnp
   have Hq := kH hq
   replace HR := HRB
   have Hnd := kH hnp
   clear hown hb3 hnw hpl ha0 ha1 ha2 HP ha2r hgv hnp HRB hq
   go_wp2_with fail
   have HS := kH (show ∀ Y : World, Y.heap[gr]? = (w3).heap[gr]? → Y.heap[gv]? = (w3).heap[gv]? → Y.cell? ⟨gr, 2, none⟩ = some (.slice Ap np cp) ∧ Y.cell? ⟨gv, ov, none⟩ = some (.int .i64 a0) ∧ Y.cell? ⟨gv, ov + 1, none⟩ = some (.int .i64 a1) ∧ Y.cell? ⟨gv, ov + 2, none⟩ = some (.int .i64 a2) from fun Y h1 h2 => by
    obtain ⟨_, _, n2, _⟩ := rl_cells (h1.trans HR.out.row)
    refine ⟨n2, ?_, ?_, ?_⟩
    · unfold World.cell? at k0 ⊢; rw [h2]; exact k0
    · unfold World.cell? at k1 ⊢; rw [h2]; exact k1
    · unfold World.cell? at k2 ⊢; rw [h2]; exact k2)
   obtain ⟨us, ho, hcr, hlo⟩ := HR.out.own.op
   rw [Hnp.out] at ho
   have Hus := kH (show us.length = q.pre.length * 3 from by rw [Hnp.out]; exact ho.1)
   have Ho := kH ho
   have Hcr := kH hcr
   clear ho hcr hlo k0 k1 k2
   refine wp_region_split 16 (by kernel_rfl) (by kernel_rfl) ?_
   simp only [List.take_succ_cons, List.take_zero]
   refine wpAny_of_held (S := fun Y => Y.cell? ⟨gr, 2, none⟩ = some (.slice Ap np cp) ∧ Y.cell? ⟨gv, ov, none⟩ = some (.int .i64 a0) ∧ Y.cell? ⟨gv, ov + 1, none⟩ = some (.int .i64 a1) ∧ Y.cell? ⟨gv, ov + 2, none⟩ = some (.int .i64 a2)) _ _ _ _ ?_
   have hHeld := HS.out (w3).drew rfl rfl
   refine tk 0 ?_ hHeld (fun Y hY => ?_) ?_
   rotate_left
   · (go_simp) <;> with_reducible rfl
   try simp only [Act.put, yL]
   refine tk 1 ?_ hHeld (fun Y hY => ?_) ?_
   rotate_left
   · obtain ⟨y0, y1, y2, y3⟩ := hY
     (go_simp) <;> with_reducible rfl
   try simp only [Act.put, yL]
   refine tk 2 ?_ hHeld (fun Y hY => ?_) ?_
   rotate_left
   · (go_simp) <;> with_reducible rfl
   try simp only [Act.put, yL]
   refine tk 3 ?_ hHeld (fun Y hY => ?_) ?_
   rotate_left
   · (go_simp) <;> with_reducible rfl
   try simp only [Act.put, yL]
   refine tk 4 ?_ hHeld (fun Y hY => ?_) ?_
   rotate_left
   · obtain ⟨y0, y1, y2, y3⟩ := hY
     (go_simp) <;> with_reducible rfl
   try simp only [Act.put, yL]
   refine tk 5 ?_ hHeld (fun Y hY => ?_) ?_
   rotate_left
   · (go_simp) <;> with_reducible rfl
   try simp only [Act.put, yL]
   refine tk 6 ?_ hHeld (fun Y hY => ?_) ?_
   rotate_left
   · (go_simp) <;> with_reducible rfl
   try simp only [Act.put, yL]
   refine tk 7 ?_ hHeld (fun Y hY => ?_) ?_
   rotate_left
   · obtain ⟨y0, y1, y2, y3⟩ := hY
     (go_simp) <;> with_reducible rfl
   try simp only [Act.put, yL]
   refine tk 8 ?_ hHeld (fun Y hY => ?_) ?_
   rotate_left
   · (go_simp) <;> with_reducible rfl
   try simp only [Act.put, yL]
   refine tk 9 ?_ hHeld (fun Y hY => ?_) ?_
   rotate_left
   · (go_simp) <;> with_reducible rfl
   try simp only [Act.put, yL]
   refine tk 10 ?_ hHeld (fun Y hY => ?_) ?_
   rotate_left
   · obtain ⟨y0, y1, y2, y3⟩ := hY
     (go_simp) <;> with_reducible rfl
   try simp only [Act.put, yL]
   refine tk 11 ?_ hHeld (fun Y hY => ?_) ?_
   rotate_left
   · (go_simp) <;> with_reducible rfl
   try simp only [Act.put, yL]
   refine tk 12 ?_ hHeld (fun Y hY => ?_) ?_
   rotate_left
   · (go_simp) <;> with_reducible rfl
   try simp only [Act.put, yL]
   refine rd 13 (fun KK hKK => ?_)
   clear hHeld
   go_simp
   obtain ⟨x2, hx2⟩ : ∃ x2, x2 = ((w3).alloc (.cells #[.int .i64 a0, .int .i64 a1, .int .u32 a2] 88)).drew := ⟨_, rfl⟩
   first | rw [← hx2] | (simp only [← hx2])
   have Hx2 := kH (show Below (w3).heap.size (w3) x2 from by rw [hx2]; exact (al0).drew)
   have Hsz2 := kH (show x2.heap.size = (w3).heap.size + 1 from by rw [hx2]; simp)
   have Hsrc := kH (show ∀ q u, [Value.int .i64 a0, .int .i64 a1, .int .u32 a2][q]? = some u → ∃ ad : Addr, (some (⟨(w3).heap.size, 0, none⟩ : Addr)) = some ad ∧ x2.cell? (ad.add q) = some u from by rw [hx2]; exact src_new (w3) [.int .i64 a0, .int .i64 a1, .int .u32 a2] _)
   clear hx2
   refine hKK.out _ _ (HS.out _ (Hx2.out.block _ HR.out.lt) (Hx2.out.block _ (gA Hgv.out).1)) (fun hHeld => ?_)
   clear hKK KK
   try simp only [Act.put, yL]
   refine rd 14 (fun KK hKK => ?_)
   clear hHeld
   refine step_append_src x2 rfl (.tmp 34) (.tmp 46) 31 rfl 88 (.agg #[.int .i64 0, .int .i64 0, .int .u32 0]) 3 24 Tryz.underlying31 RF.infoCd rfl (by decide) (.slice Ap np cp) np us rfl (Ho.out.below Hx2.out Ho.out.lt) (some ⟨(w3).heap.size, 0, none⟩) 1 1 [.int .i64 a0, .int .i64 a1, .int .u32 a2] rfl rfl Hsrc.out (by simp [Value.oneCell']) hnb (by decide) ?_
   intro v6 w6 hown6 hgr6 hat6
   have hk6 : w6.heap[gv]? = (w3).heap[gv]? := (hgr6.block gv (Nat.lt_of_lt_of_le (gA Hgv.out).1 Hx2.out.size) (fun e => by
    obtain ⟨cur, hc⟩ := RF.ownC_ty (HR.out.own.op.below Hx2.out) e.symm
    have := ty_of ((Hx2.out.block _ (gA Hgv.out).1).trans Hgv.out) hc
    exact absurd this (by decide))).trans (Hx2.out.block _ (gA Hgv.out).1)
   obtain ⟨A6, c6, rfl⟩ := hown6.form
   obtain ⟨g0, G1, G2⟩ := HR.out.cond (w' := w6) (y := ⟨a0, a1, a2⟩) hB.out Hx2.out Hus.out (fun k y h => Hcr.out k y h) (by rw [Hnp.out]; exact hown6) Ha2.out hgr6 (by
    rcases hat6 with e | e
    · exact .inl e
    · exact .inr ⟨_, e, Hx2.out.size⟩)
   refine hKK.out _ _ (HS.out w6 (g0.trans HR.out.row.symm) hk6) (fun hHeld => ?_)
   clear hKK KK
   try simp only [Act.put, yL]
   have HR6 := kH G1
   have HF6 := kH G2
   obtain ⟨z0, z1, z2, zf⟩ := rl_cells g0
   have zf2 := zf 2
   clear zf G1 G2 hk6 g0 hown6 hgr6 hat6
   refine tk 15 ?_ hHeld (fun Y hY => ?_) ?_
   rotate_left
   · (go_simp) <;> with_reducible rfl
   try simp only [Act.put, yL]
   refine wpAnyH_done (by kernel_rfl) ?_ _
   clear hHeld
   have hxq : ({ q with pre := q.pre ++ [(⟨a0, a1, a2⟩ : R.Cd)] } : R.Rl) = ⟨L, Q, (d ++ [x]).map condOf⟩ := by rw [Hq.out, List.map_append, List.map_singleton, Hy.out]
   rw [hxq] at HR6
   obtain ⟨w7, hw7⟩ : ∃ w7, w7 = w6.setCell ⟨gr, 2, none⟩ (.slice A6 (np + 1) c6) := ⟨_, rfl⟩
   rw [← hw7] at HR6 HF6
   have Hs7 := kH (HsB.out.keep (HF6.out gs (gA HsB.out.row).1 (RF.row_ne HsB.out.row HR.out.row (by decide)) fun cur T fr hc => by rw [ty_of hc HsB.out.row]; exact ⟨by decide, by decide⟩) (HF6.out gw (gA HsB.out.wd).1 (RF.row_ne HsB.out.wd HR.out.row (by decide)) fun cur T fr hc => by rw [ty_of hc HsB.out.wd]; exact ⟨by decide, by decide⟩))
   have Hr7 := kH ((HF6.out W.heap.size (gA HrB.out).1 Hg.out.2.1 fun cur T fr hc => by rw [ty_of hc HrB.out]; exact ⟨by decide, by decide⟩).trans HrB.out)
   have HN := kH (next_any (e := []) Hs7.out)
   clear hxq HF6
   go_upto_region 7 with (fail)
   rw [← hw7]
   clear hw7 z0 z1 z2 zf2
   go_wp2_with fail
   (refine HN.out.mono ?_)
   rintro en w9 hp
   obtain ⟨b, x2, r2, A9, n9, c9, rfl, hs9, hk9, ht9, hm9, hx9, hl9⟩ := hp.told Hs7.out Ht.out.next
   have Hs9 := kH hs9
   have HR9 := kH (HR6.out.scn hk9 Hs7.out.row Hg.out.1 HR6.out.b.size)
   have Hr9 := kH ((hk9.block W.heap.size (gA Hr7.out).1 (by have := Hg.out.2.2; omega)).trans Hr7.out)
   have Ht9 := kH ht9
   have Hm9 := kH (show ∀ z ∈ r2, z ∈ wu from fun z hz => Hm.out z (hm9 z hz))
   have Hx9 := kH (show b = true → x2 ∈ wu from fun h => Hm.out x2 (hx9 h))
   have Hl9 := kH hl9
   clear hp hs9 hk9 ht9 hm9 hx9 hl9 HN Hs7 HsB HrB HR6 Hr7
   go_wp2_with fail
   go_roundg (gk - 1)
   case measure =>
    have h1 := Hgk.out
    have h2 := Hl.out
    simp only [if_true] at h2
    omega
   case rel =>
    have h1 := Hgk.out
    have h2 := Hl.out
    have h3 := Hl9.out
    simp only [if_true] at h2
    refine ⟨d ++ [x], r2, b, x2, _, A9, n9, c9, rfl, rfl, ?_, kH ?_, Ht9, Hs9, HR9, Hr9, Hm9, Hx9⟩
    · rw [List.length_append, List.length_singleton]; omega
    · rw [List.length_append, List.length_singleton]; omega
end KT
end
section
open Go.RowKit Go.Maps Go.Lib
namespace KT
theorem rParse_any {t : List UInt8} (ht : t.length ≤ 800000) {W : World} (hT : Tens W) :
 Calls Tryz.prog 28 #[.string ⟨t.toArray⟩] W (ParsePost W t) := by
 obtain ⟨W1, hW1⟩ : ∃ W1, W1 = W.alloc (.cells #[.slice none 0 0, .slice none 0 0, .slice none 0 0] 33) := ⟨_, rfl⟩
 have hb1 : Below W.heap.size W W1 := by rw [hW1]; exact al0
 have hr1 : W1.heap[W.heap.size]? = some (.cells #[.slice none 0 0, .slice none 0 0, .slice none 0 0] 33 (0, 0)) := by rw [hW1]; exact heap_alloc_new W _
 have HC := kH (rread_any (t := t) (by omega) (W := W1))
 obtain ⟨cand, hcand⟩ : ∃ r, r = candR t := ⟨_, rfl⟩
 unfold ReadPost at HC
 rw [← hcand] at HC
 have HRS := kH (show RlS cand from by rw [hcand]; exact candR_S t)
 have Hpa := kH (show parse t = if R.rvalid cand = 0 ∧ textW cand = t then some cand else none from by rw [hcand]; exact parse_ref t)
 have HT := kH (fun X (h : Below W.heap.size W X) => hT.below h)
 have HB1 := kH hb1
 have Hr1 := kH hr1
 have HW1 := kH hW1
 clear hT hb1 hr1 hW1 hcand
 go_enter Tryz.func28, Tryz.ntmps28
 go_upto_region 1 with (fail)
 rw [← HW1.out]
 go_wp2_with fail
 (refine HC.out.mono ?_)
 rintro e w2 ⟨v1, v2, v3, rfl, hown, hb2⟩
 obtain ⟨A1, kA, e1⟩ := hown.ol.form
 obtain ⟨A2, kB, e2⟩ := hown.or_.form
 obtain ⟨A3, kC, e3⟩ := hown.op.form
 obtain ⟨m1, hm1⟩ : ∃ m, m = cand.left.length := ⟨_, rfl⟩
 obtain ⟨m2, hm2⟩ : ∃ m, m = cand.right.length := ⟨_, rfl⟩
 obtain ⟨m3, hm3⟩ : ∃ m, m = cand.pre.length := ⟨_, rfl⟩
 rw [← hm1] at e1
 rw [← hm2] at e2
 rw [← hm3] at e3
 subst e1 e2 e3
 obtain ⟨gr, hgr⟩ : ∃ g, g = w2.heap.size := ⟨_, rfl⟩
 obtain ⟨wr, hwr⟩ : ∃ wr, wr = w2.alloc (.cells #[.slice A1 m1 kA, .slice A2 m2 kB, .slice A3 m3 kC] 33) := ⟨_, rfl⟩
 have hb3 : Below w2.heap.size w2 wr := by rw [hwr]; exact al0
 have HO := kH (show OwnRl W.heap.size wr (.slice A1 m1 kA) (.slice A2 m2 kB) (.slice A3 m3 kC) cand from (hown.below hb3).weak HB1.out.size)
 have HRow := kH (show wr.heap[gr]? = some (.cells #[.slice A1 m1 kA, .slice A2 m2 kB, .slice A3 m3 kC] 33 (0, 0)) from by rw [hwr, hgr]; exact heap_alloc_new w2 _)
 have Hbr := kH (HB1.out.trans ((hb2.trans (hb3.mono hb2.size)).mono HB1.out.size))
 have Hr := kH (show wr.heap[W.heap.size]? = some (.cells #[.slice none 0 0, .slice none 0 0, .slice none 0 0] 33 (0, 0)) from (hb3.block _ (Nat.lt_of_lt_of_le (gA Hr1.out).1 hb2.size)).trans ((hb2.block _ (gA Hr1.out).1).trans Hr1.out))
 have fl := flr_of HRS.out.left
 have fr := flr_of HRS.out.right
 have hRl : RlAt wr cand m1 m2 m3 A1 A2 A3 := ⟨HO.out.ol.stAt (ndF_rel _) hm1.symm, HO.out.or_.stAt (ndF_rel _) hm2.symm, HO.out.op.stAt hm3.symm, fl, fr⟩
 have HV := kH (rValidate_rule (cl := kA) (cr := kB) (cp := kC) hRl)
 have HRl := kH hRl
 have Hfl := kH fl
 have Hfr := kH fr
 have Hs1 := kH Hbr.out.size
 have Hlt := kH (gA HRow.out).1
 have Hwr := kH hwr
 have Hgr := kH hgr
 clear hown hb2 hb3 fl fr hRl hm1 hm2 hm3 hwr HC
 go_upto_region 2 with (fail)
 first | rw [← Hgr.out, ← Hwr.out] | (simp only [← Hgr.out, ← Hwr.out])
 clear hgr
 obtain ⟨z0, z1, z2, _⟩ := rl_cells HRow.out
 by_cases hv : R.rvalid cand = 0
 rotate_left
 · have Hpn := kH (show parse t = none from by rw [Hpa.out, if_neg (fun h => hv h.1)])
   obtain ⟨z, hz⟩ : ∃ z, R.rvalid cand = z := ⟨_, rfl⟩
   rw [hz] at HV hv
   have q : (z != 0) = true := by simpa using hv
   clear hv hz
   go_wp2_with fail
   (with_reducible refine HV.out.mono ?_)
   rintro e w3 ⟨rfl, hb2⟩
   have Hb2 := kH (Hbr.out.trans (hb2.mono Hs1.out))
   have hr2 := (hb2.block _ (gA Hr.out).1).trans Hr.out
   have Hr2 := kH hr2
   obtain ⟨y0, y1, y2, yf⟩ := rl_cells hr2
   have yf0 := yf 0
   have yf1 := yf 1
   have yf2 := yf 2
   clear hb2 HV z0 z1 z2 hr2 yf
   go_wp2_with fail
   (try simp only [Exit.inBlock, Exit.then])
   refine bodyPost_ret (results_rl2 rfl _ _ W.heap.size _ _ _ rfl (set3_row _ _ _ Hr2.out)) rfl ?_
   exact ⟨_, _, _, ⟨[], [], []⟩, 2, rfl, OwnRl.nil_ _ _, fun x h => (by cases h), fun x h => (by cases h), set3_below _ _ _ Hb2.out (Nat.le_refl _), .inr ⟨Hpn.out, rfl, rfl⟩⟩
 · have hwr := wrt_of_valid (us := [.slice A1 m1 kA, .slice A2 m2 kB, .slice A3 m3 kC]) ⟨m1, kA, m2, kB, m3, kC, A1, A2, A3, rfl, HRl.out⟩ hv
   have hnl := HRl.out.sl.len
   have hnr := HRl.out.sr.len
   have hnp := HRl.out.sp.len
   have k1 := hwr.nl
   have k2 := hwr.nr
   have k3 := hwr.np
   have HX := kH (fun X (h : Below wr.heap.size wr X) => rtext_any (cl := kA) (cr := kB) (cp := kC) (HRl.out.below h) (HT.out X (Hbr.out.trans (h.mono Hs1.out))) (by omega) (by omega) (by omega) hwr.l hwr.q hwr.p)
   rw [hv] at HV
   have Hv := kH hv
   obtain ⟨tx, htx⟩ : ∃ tx, tx = textW cand := ⟨_, rfl⟩
   rw [← htx] at HX
   have Htx := kH htx
   clear hv hwr hnl hnr hnp k1 k2 k3 htx
   go_wp2_with fail
   (with_reducible refine HV.out.mono ?_)
   rintro e w3 ⟨rfl, hb2⟩
   have Hb2 := kH hb2
   have hz := (hb2.block _ Hlt.out).trans HRow.out
   clear hb2 HV z0 z1 z2
   obtain ⟨z0, z1, z2, _⟩ := rl_cells hz
   clear hz
   go_wp2_with fail
   (with_reducible refine (HX.out _ Hb2.out).mono ?_)
   rintro e w4 ⟨rfl, hb3⟩
   have Hb3 := kH (Hb2.out.trans (hb3.mono Hb2.out.size))
   have hz := (Hb3.out.block _ Hlt.out).trans HRow.out
   have hr2 := (Hb3.out.block _ (gA Hr.out).1).trans Hr.out
   have Hr2 := kH hr2
   clear hb3 z0 z1 z2
   obtain ⟨z0, z1, z2, _⟩ := rl_cells hz
   obtain ⟨y0, y1, y2, yf⟩ := rl_cells hr2
   have yf0 := yf 0
   have yf1 := yf 1
   have yf2 := yf 2
   clear hz hr2 yf
   by_cases he : tx = t
   · have Hps := kH (show parse t = some cand from by rw [Hpa.out, if_pos ⟨Hv.out, by rw [← Htx.out]; exact he⟩])
     subst he
     have q : (tx == tx) = true := by simp
     go_wp2_with fail
     (try simp only [Exit.inBlock, Exit.then])
     refine bodyPost_ret (results_rl2 rfl _ _ W.heap.size _ _ _ rfl (set3_row _ _ _ Hr2.out)) rfl ?_
     exact ⟨_, _, _, cand, 0, rfl, (HO.out.below Hb3.out).set3 _ _ _ Hr2.out, Hfl.out, Hfr.out, set3_below _ _ _ (Hbr.out.trans (Hb3.out.mono Hs1.out)) (Nat.le_refl _), .inl ⟨Hps.out, rfl⟩⟩
   · have Hps := kH (show parse t = none from by rw [Hpa.out, if_neg (fun h => he (Htx.out.trans h.2))])
     have q : (tx == t) = false := by simpa using he
     clear he
     go_wp2_with fail
     (try simp only [Exit.inBlock, Exit.then])
     refine bodyPost_ret (results_rl2 rfl _ _ W.heap.size _ _ _ rfl (set3_row _ _ _ Hr2.out)) rfl ?_
     exact ⟨_, _, _, ⟨[], [], []⟩, 2, rfl, OwnRl.nil_ _ _, fun x h => (by cases h), fun x h => (by cases h), set3_below _ _ _ (Hbr.out.trans (Hb3.out.mono Hs1.out)) (Nat.le_refl _), .inr ⟨Hps.out, rfl, rfl⟩⟩
end KT
end
end Go.Proofs.YtbiopedpceddeaaGreatDoor
