/- Merged: QJ14, QPlainEH, QPlainEI, QPlainEJ, QGro3. -/
import Derived.Test.YtcmlmjbpdaecbaaGreatA32
import Derived.Test.YtcmlmjbpdaecbaaGreatA26
set_option linter.unusedVariables false
set_option linter.unusedSimpArgs false
section
namespace Go.Proofs.YtcmlmjbpdaecbaaGreat
open Go.RowKit Go.MapKept Go.Maps Go.WideMaps
set_option linter.unusedVariables false
set_option linter.unusedSimpArgs false

namespace E
/-- a variable whose width is not that of the graph -/
def VBad (vr : Vr) (ws : List Int) (i : Nat) : Prop := 0 < ws.getD i 0 ∧ 0 < vr.get i ∧ ws.getD i 0 ≠ vr.get i
/-- the operations of a list, one after the other -/
def Gr.puts : Gr → List Nat → List T.Nd → Gr × List Nat
  | s, cl, [] => (s, cl)
  | s, cl, x :: l => Gr.puts (s.put (opOf cl x)).1 (cl ++ [(s.put (opOf cl x)).2.1]) l
def Vr.max (v : Vr) (ws : List Int) : Vr := ⟨Max.max v.a (ws.getD 0 0), Max.max v.b (ws.getD 1 0), Max.max v.c (ws.getD 2 0), Max.max v.d (ws.getD 3 0)⟩
/-- Add of the reference -/
inductive RAddR (s : Gr) (t : List T.Nd) : Gr → Int → Int → Prop where
  | bad (h : T.valid true t ≠ 0) : RAddR s t s 0 (T.valid true t)
  | rule (h : T.valid true t = 0) {f : T.F} (hf : T.Rep t [((t.length - 1 : Nat) : Int)] f) {i : Nat} (hi : i < 4) (hb : VBad s.vr (T.widths (T.canon f)) i) : RAddR s t s 0 7
  | large (h : T.valid true t = 0) {f : T.F} (hf : T.Rep t [((t.length - 1 : Nat) : Int)] f) (hb : ∀ i, i < 4 → ¬ VBad s.vr (T.widths (T.canon f)) i) {es0 : List (Opn × Nat)} (hn : (es0.map Prod.fst).Nodup) (he : ∀ x, x ∈ es0 ↔ x ∈ s.es) {p1 : List Nat} {es1 : List (Opn × Nat)}
      (hs : RShut (Gr.puts { s with es := es0 } [] (T.canon f)).1.p (Gr.puts { s with es := es0 } [] (T.canon f)).1.es p1 es1) (hr : 60 < roots p1) : RAddR s t s 0 3
  | ok (h : T.valid true t = 0) {f : T.F} (hf : T.Rep t [((t.length - 1 : Nat) : Int)] f) (hb : ∀ i, i < 4 → ¬ VBad s.vr (T.widths (T.canon f)) i) {es0 : List (Opn × Nat)} (hn : (es0.map Prod.fst).Nodup) (he : ∀ x, x ∈ es0 ↔ x ∈ s.es) {p1 : List Nat} {es1 : List (Opn × Nat)}
      (hs : RShut (Gr.puts { s with es := es0 } [] (T.canon f)).1.p (Gr.puts { s with es := es0 } [] (T.canon f)).1.es p1 es1) (hr : ¬ 60 < roots p1) :
      RAddR s t { p := p1, wd := (Gr.puts { s with es := es0 } [] (T.canon f)).1.wd, es := es1, nm := s.nm ++ [(Gr.puts { s with es := es0 } [] (T.canon f)).2.getD ((T.canon f).length - 1) 0], vr := s.vr.max (T.widths (T.canon f)) } (s.nm.length : Int) 0
end E

theorem nodup_len_le {α : Type} [DecidableEq α] {l m : List α} (hn : l.Nodup) (h : ∀ x ∈ l, x ∈ m) : l.length ≤ m.length := by
  induction l generalizing m with
  | nil => simp
  | cons x r ih =>
    rw [List.nodup_cons] at hn
    have hx := h x (List.mem_cons_self ..)
    have := ih (m := m.erase x) hn.2 fun y hy => by
      rw [List.mem_erase_of_ne (by rintro rfl; exact hn.1 hy)]
      exact h y (List.mem_cons_of_mem _ hy)
    rw [List.length_erase_of_mem hx] at this
    have := List.length_pos_of_mem hx
    simp; omega
theorem nodup_keys {α β : Type} {l : List (α × β)} (h : (l.map Prod.fst).Nodup) : l.Nodup := by
  rw [List.Nodup, List.pairwise_map] at h
  exact h.imp fun hab e => hab (by rw [e])
/-- k operations are in -/
structure PutI (W : World) (s0 : E.Gr) (L : List T.Nd) (gb k : Nat) (s : E.Gr) (cl : List Nat) (t1 t2 t4 : Value) (km : Nat) (vcl : Value) (w : World) : Prop where
  ng : NewRG W s.p s.wd s.es s.nm s.vr w gb t1 t2 t4 km
  own : OwnAt w 3 1 vcl cl.length (ivs cl)
  cnew : ∀ i, vcl.ownBlock = some i → W.heap.size ≤ i
  cap : ∀ i, MR gb t1 t2 t4 km i → vcl.ownBlock ≠ some i
  len : cl.length = k
  told : s0.puts [] L = s.puts cl (L.drop k)
  ok : s.Ok
  owf : ∀ e ∈ s.es, OWf e.1
  lp : s.p.length ≤ s0.p.length + k
  le : s.es.length ≤ s0.es.length + k
  nm : s.nm = s0.nm
  vr : s.vr = s0.vr
  lo : ∀ c ∈ cl, c < s.p.length
/-- one more is in, and its class is not yet noted -/
structure PutM (W : World) (s0 : E.Gr) (L : List T.Nd) (gb k : Nat) (s : E.Gr) (cl : List Nat) (c0 : Nat) (t1 t2 t4 : Value) (km : Nat) (vcl : Value) (w : World) : Prop where
  ng : NewRG W s.p s.wd s.es s.nm s.vr w gb t1 t2 t4 km
  own : OwnAt w 3 1 vcl cl.length (ivs cl)
  cnew : ∀ i, vcl.ownBlock = some i → W.heap.size ≤ i
  cap : ∀ i, MR gb t1 t2 t4 km i → vcl.ownBlock ≠ some i
  len : cl.length = k
  told : s0.puts [] L = s.puts (cl ++ [c0]) (L.drop (k + 1))
  ok : s.Ok
  owf : ∀ e ∈ s.es, OWf e.1
  lp : s.p.length ≤ s0.p.length + (k + 1)
  le : s.es.length ≤ s0.es.length + (k + 1)
  nm : s.nm = s0.nm
  vr : s.vr = s0.vr
  lo : ∀ c ∈ cl ++ [c0], c < s.p.length
section
variable {W w w' : World} {s0 s : E.Gr} {L : List T.Nd} {gb k : Nat} {cl : List Nat} {c0 : Nat} {t1 t2 t4 : Value} {km : Nat} {vcl : Value} {x : T.Nd}
theorem PutI.below (h : PutI W s0 L gb k s cl t1 t2 t4 km vcl w) (hb : Below w.heap.size w w') : PutI W s0 L gb k s cl t1 t2 t4 km vcl w' :=
  ⟨⟨h.ng.gr.below hb, h.ng.bel.trans (hb.mono h.ng.bel.size), h.ng.new⟩, h.own.below hb h.own.lt, h.cnew, h.cap, h.len, h.told, h.ok, h.owf, h.lp, h.le, h.nm, h.vr, h.lo⟩
theorem PutM.below (h : PutM W s0 L gb k s cl c0 t1 t2 t4 km vcl w) (hb : Below w.heap.size w w') : PutM W s0 L gb k s cl c0 t1 t2 t4 km vcl w' :=
  ⟨⟨h.ng.gr.below hb, h.ng.bel.trans (hb.mono h.ng.bel.size), h.ng.new⟩, h.own.below hb h.own.lt, h.cnew, h.cap, h.len, h.told, h.ok, h.owf, h.lp, h.le, h.nm, h.vr, h.lo⟩
/-- the operands of a node, as classes -/
theorem PutI.args (h : PutI W s0 L gb k s cl t1 t2 t4 km vcl w) (hn : E.NdOk x) (hi : 0 ≤ x.imm ∧ x.imm < 4294967296) (ha : ∀ a ∈ x.args, 0 ≤ a ∧ a < (k : Int)) (hp : s.p.length ≤ 900000) :
    E.Ar s.p.length (E.opOf cl x) ∧ OWf (E.opOf cl x) := by
  have hlen := h.len
  have hg : ∀ i, E.ArOk s.p.length ((x.args.map fun a => ((cl.getD a.toNat 0 : Nat) : Int)).getD i (-1)) := fun i => by
    rw [List.getD_eq_getElem?_getD]
    cases e : (x.args.map fun a => ((cl.getD a.toNat 0 : Nat) : Int))[i]? with
    | none => exact .inl rfl
    | some z =>
      rw [List.getElem?_map] at e
      cases e2 : x.args[i]? with
      | none => rw [e2] at e; cases e
      | some a =>
        rw [e2] at e
        simp only [Option.map_some, Option.some.injEq] at e
        have := ha a (List.mem_of_getElem? e2)
        have h1 : cl.getD a.toNat 0 ∈ cl := by
          rw [List.getD_eq_getElem?_getD, List.getElem?_eq_getElem (by omega)]
          exact List.getElem_mem _
        have := h.lo _ h1
        refine .inr ⟨?_, ?_⟩
        · show 0 ≤ z; omega
        · show z < _; omega
  have hAr : E.Ar s.p.length (E.opOf cl x) := ⟨hg 0, hg 1, hg 2⟩
  exact ⟨hAr, ⟨⟨by have := hn.op; show _ ≤ x.op; omega, by have := hn.op; show x.op ≤ _; omega⟩, ⟨by have := hn.w; show _ ≤ x.w; omega, by have := hn.w; show x.w ≤ _; omega⟩, hi, arOk_i64 (by omega) hAr.1, arOk_i64 (by omega) hAr.2.1, arOk_i64 (by omega) hAr.2.2⟩⟩
theorem opL_cl (x : T.Nd) (cl : List Nat) (h : ∀ a ∈ x.args, 0 ≤ a ∧ a < (cl.length : Int)) : opL x (clsOf x (ini cl)) = E.opOf cl x := by
  have e : clsOf x (ini cl) = x.args.map fun a => ((cl.getD a.toNat 0 : Nat) : Int) := by
    unfold clsOf
    apply List.map_congr_left
    intro a ha
    have := h a ha
    unfold ini
    rw [List.getD_eq_getElem?_getD, List.getD_eq_getElem?_getD, List.getElem?_map, List.getElem?_eq_getElem (by omega)]
    rfl
  rw [e]
  rfl
/-- an operation is put in -/
theorem PutI.put {e : Ending} {t1' t2' : Value} (h : PutI W s0 L gb k s cl t1 t2 t4 km vcl w) (hx : L[k]? = some x) (har : E.Ar s.p.length (E.opOf cl x)) (hwf : OWf (E.opOf cl x)) (hlp : s.p.length ≤ 900000) (hp : RPutPost w gb s (E.opOf cl x) t1 t2 t4 km e w' t1' t2') :
    PutM W s0 L gb k (s.put (E.opOf cl x)).1 cl (s.put (E.opOf cl x)).2.1 t1' t2' t4 km vcl w' := by
  obtain ⟨q1, q2, q3, q4, q5, q6⟩ := E.Gr.put_ok h.ok har
  have hnew : ∀ i, MR gb t1' t2' t4 km i → W.heap.size ≤ i := fun i hi => by
    rcases hp.new i hi with h1 | h1
    · exact h.ng.new i h1
    · have := h.ng.bel.size; omega
  refine ⟨⟨hp.gr, h.ng.bel.trans (hp.kp.below h.ng.bel.size h.ng.new), hnew⟩, h.own.same fun i hi => hp.kp.block i (h.own.lt i hi) (fun hm => h.cap i hm hi), h.cnew, fun i hi e => ?_, h.len, ?_, q1, ?_, ?_, ?_, q5.trans h.nm, q6.trans h.vr, ?_⟩
  · rcases hp.new i hi with h1 | h1
    · exact h.cap i h1 e
    · have := h.own.lt i e; omega
  · rw [h.told, drop_cons hx]; rfl
  · intro e he
    cases hg : AL.get s.es (E.can s.p (E.opOf cl x)) with
    | some c => rw [E.Gr.put_some hg] at he; exact h.owf e he
    | none =>
      rw [E.Gr.put_none hg] at he
      rcases List.mem_append.1 he with he | he
      · exact h.owf e he
      · simp at he; subst he; exact owf_can hwf har (by omega)
  · have := h.lp; omega
  · have h1 : (s.put (E.opOf cl x)).1.es.length ≤ s.es.length + 1 := by
      cases hg : AL.get s.es (E.can s.p (E.opOf cl x)) with
      | some c => rw [E.Gr.put_some hg]; exact Nat.le_succ _
      | none => rw [E.Gr.put_none hg]; simp
    have := h.le
    omega
  · intro c hc
    rcases List.mem_append.1 hc with hc | hc
    · have := h.lo c hc; omega
    · simp at hc; subst hc; exact q2
/-- its class is noted -/
theorem PutM.note {v' : Value} (h : PutM W s0 L gb k s cl c0 t1 t2 t4 km vcl w) (hown : OwnAt w' 3 1 v' (cl.length + 1) (ivs cl ++ [.int .i64 (c0 : Int)])) (hg : w.grownBy w' vcl.ownBlock) (hat : v'.ownBlock = vcl.ownBlock ∨ ∃ j, w.heap.size ≤ j ∧ v'.ownBlock = some j) :
    PutI W s0 L gb (k + 1) s (cl ++ [c0]) t1 t2 t4 km v' w' := by
  refine ⟨⟨h.ng.gr.frame fun i hi => hg.block i (h.ng.gr.lt i hi) (fun e => h.cap i hi e.symm), h.ng.bel.grown hg h.ng.bel.size (fun i e => h.cnew i e), h.ng.new⟩, ?_, fun i hi => ?_, fun i hi e => ?_, by simp [h.len], h.told, h.ok, h.owf, h.lp, h.le, h.nm, h.vr, h.lo⟩
  · rw [List.length_append, List.length_singleton, show ivs (cl ++ [c0]) = ivs cl ++ [.int .i64 (c0 : Int)] by simp [ivs]]
    exact hown
  · rcases hat with e | ⟨j, hj, e⟩
    · exact h.cnew i (e ▸ hi)
    · rw [e] at hi; injection hi with hi; have := h.ng.bel.size; omega
  · rcases hat with e' | ⟨j, hj, e'⟩
    · exact h.cap i hi (e' ▸ e)
    · rw [e'] at e; injection e with e; have := h.ng.gr.lt i hi; omega
end
theorem set8_row {w : World} {g : Nat} {T : TypeId} {a0 a1 a2 a3 a4 a5 a6 a7 : Value} (h : w.heap[g]? = some (.cells #[a0, a1, a2, a3, a4, a5, a6, a7] T (0, 0))) (q0 q1 q2 q3 q4 q5 q6 q7 : Value) : ((((((((w.setCell ⟨g, 0, none⟩ q0).setCell ⟨g, 1, none⟩ q1).setCell ⟨g, 2, none⟩ q2).setCell ⟨g, 3, none⟩ q3).setCell ⟨g, 4, none⟩ q4).setCell ⟨g, 5, none⟩ q5).setCell ⟨g, 6, none⟩ q6).setCell ⟨g, 7, none⟩ q7).heap[g]? = some (.cells #[q0, q1, q2, q3, q4, q5, q6, q7] T (0, 0)) := by
  have h0 : (w.setCell ⟨g, 0, none⟩ q0).heap[g]? = some (.cells #[q0, a1, a2, a3, a4, a5, a6, a7] T (0, 0)) := heap_setCell_same _ g 0 _ _ q0 h
  have h1 : ((w.setCell ⟨g, 0, none⟩ q0).setCell ⟨g, 1, none⟩ q1).heap[g]? = some (.cells #[q0, q1, a2, a3, a4, a5, a6, a7] T (0, 0)) := heap_setCell_same _ g 1 _ _ q1 h0
  have h2 : (((w.setCell ⟨g, 0, none⟩ q0).setCell ⟨g, 1, none⟩ q1).setCell ⟨g, 2, none⟩ q2).heap[g]? = some (.cells #[q0, q1, q2, a3, a4, a5, a6, a7] T (0, 0)) := heap_setCell_same _ g 2 _ _ q2 h1
  have h3 : ((((w.setCell ⟨g, 0, none⟩ q0).setCell ⟨g, 1, none⟩ q1).setCell ⟨g, 2, none⟩ q2).setCell ⟨g, 3, none⟩ q3).heap[g]? = some (.cells #[q0, q1, q2, q3, a4, a5, a6, a7] T (0, 0)) := heap_setCell_same _ g 3 _ _ q3 h2
  have h4 : (((((w.setCell ⟨g, 0, none⟩ q0).setCell ⟨g, 1, none⟩ q1).setCell ⟨g, 2, none⟩ q2).setCell ⟨g, 3, none⟩ q3).setCell ⟨g, 4, none⟩ q4).heap[g]? = some (.cells #[q0, q1, q2, q3, q4, a5, a6, a7] T (0, 0)) := heap_setCell_same _ g 4 _ _ q4 h3
  have h5 : ((((((w.setCell ⟨g, 0, none⟩ q0).setCell ⟨g, 1, none⟩ q1).setCell ⟨g, 2, none⟩ q2).setCell ⟨g, 3, none⟩ q3).setCell ⟨g, 4, none⟩ q4).setCell ⟨g, 5, none⟩ q5).heap[g]? = some (.cells #[q0, q1, q2, q3, q4, q5, a6, a7] T (0, 0)) := heap_setCell_same _ g 5 _ _ q5 h4
  have h6 : (((((((w.setCell ⟨g, 0, none⟩ q0).setCell ⟨g, 1, none⟩ q1).setCell ⟨g, 2, none⟩ q2).setCell ⟨g, 3, none⟩ q3).setCell ⟨g, 4, none⟩ q4).setCell ⟨g, 5, none⟩ q5).setCell ⟨g, 6, none⟩ q6).heap[g]? = some (.cells #[q0, q1, q2, q3, q4, q5, q6, a7] T (0, 0)) := heap_setCell_same _ g 6 _ _ q6 h5
  have h7 : ((((((((w.setCell ⟨g, 0, none⟩ q0).setCell ⟨g, 1, none⟩ q1).setCell ⟨g, 2, none⟩ q2).setCell ⟨g, 3, none⟩ q3).setCell ⟨g, 4, none⟩ q4).setCell ⟨g, 5, none⟩ q5).setCell ⟨g, 6, none⟩ q6).setCell ⟨g, 7, none⟩ q7).heap[g]? = some (.cells #[q0, q1, q2, q3, q4, q5, q6, q7] T (0, 0)) := heap_setCell_same _ g 7 _ _ q7 h6
  exact h7
theorem set8_other {w : World} {g : Nat} (q0 q1 q2 q3 q4 q5 q6 q7 : Value) : ∀ i, i ≠ g → ((((((((w.setCell ⟨g, 0, none⟩ q0).setCell ⟨g, 1, none⟩ q1).setCell ⟨g, 2, none⟩ q2).setCell ⟨g, 3, none⟩ q3).setCell ⟨g, 4, none⟩ q4).setCell ⟨g, 5, none⟩ q5).setCell ⟨g, 6, none⟩ q6).setCell ⟨g, 7, none⟩ q7).heap[i]? = w.heap[i]? := fun i hi => by
  rw [Below.heap_setCell _ _ _ i hi, Below.heap_setCell _ _ _ i hi, Below.heap_setCell _ _ _ i hi, Below.heap_setCell _ _ _ i hi, Below.heap_setCell _ _ _ i hi, Below.heap_setCell _ _ _ i hi, Below.heap_setCell _ _ _ i hi, Below.heap_setCell _ _ _ i hi]
theorem set8_kpm {W w : World} {g : Nat} (h : Kpm (fun i => i = g) W w) (q0 q1 q2 q3 q4 q5 q6 q7 : Value) : Kpm (fun i => i = g) W ((((((((w.setCell ⟨g, 0, none⟩ q0).setCell ⟨g, 1, none⟩ q1).setCell ⟨g, 2, none⟩ q2).setCell ⟨g, 3, none⟩ q3).setCell ⟨g, 4, none⟩ q4).setCell ⟨g, 5, none⟩ q5).setCell ⟨g, 6, none⟩ q6).setCell ⟨g, 7, none⟩ q7) :=
  ((((((((h.setCell (p := ⟨g, 0, none⟩) (fun _ => rfl) _).setCell (p := ⟨g, 1, none⟩) (fun _ => rfl) _).setCell (p := ⟨g, 2, none⟩) (fun _ => rfl) _).setCell (p := ⟨g, 3, none⟩) (fun _ => rfl) _).setCell (p := ⟨g, 4, none⟩) (fun _ => rfl) _).setCell (p := ⟨g, 5, none⟩) (fun _ => rfl) _).setCell (p := ⟨g, 6, none⟩) (fun _ => rfl) _).setCell (p := ⟨g, 7, none⟩) (fun _ => rfl) _)
theorem row8_cells {w : World} {g : Nat} {T : TypeId} {a0 a1 a2 a3 a4 a5 a6 a7 : Value} (h : w.heap[g]? = some (.cells #[a0, a1, a2, a3, a4, a5, a6, a7] T (0, 0))) :
    w.cell? ⟨g, 0, none⟩ = some a0 ∧ w.cell? ⟨g, 1, none⟩ = some a1 ∧ w.cell? ⟨g, 2, none⟩ = some a2 ∧ w.cell? ⟨g, 3, none⟩ = some a3 ∧ w.cell? ⟨g, 4, none⟩ = some a4 ∧ w.cell? ⟨g, 5, none⟩ = some a5 ∧ w.cell? ⟨g, 6, none⟩ = some a6 ∧ w.cell? ⟨g, 7, none⟩ = some a7 := by
  refine ⟨?_, ?_, ?_, ?_, ?_, ?_, ?_, ?_⟩
  all_goals rw [cell_of_row _ _ _ _ _ (0, 0) h]; rfl
/-- the head of another graph is laid over a head -/
theorem RGC.move {w w' : World} {b b' : Nat} {p : List Nat} {wd : List Int} {kn : List (E.Opn × Nat)} {nm : List Nat} {vr : E.Vr} {v1 v2 v4 : Value} {kb : Nat} (h : RGC w b p wd kn nm vr v1 v2 v4 kb) (hr : w'.heap[b']? = some (.cells #[v1, v2, .map (some kb), v4, .int .i64 vr.a, .int .i64 vr.b, .int .i64 vr.c, .int .i64 vr.d] 92 (0, 0))) (hk : ∀ i, i ≠ b' → w'.heap[i]? = w.heap[i]?) (hb : ∀ i, MR b v1 v2 v4 kb i → i ≠ b → i ≠ b') : RGC w' b' p wd kn nm vr v1 v2 v4 kb :=
  ⟨hr, h.o1.same fun i hi => hk i (hb i (.inr (.inr (.inl hi))) (fun e => h.ne1 (e ▸ hi))), h.o2.same fun i hi => hk i (hb i (.inr (.inr (.inr (.inl hi)))) (fun e => h.ne2 (e ▸ hi))), h.km.keep (hk kb (hb kb (.inr (.inl rfl)) h.kne)) (fun _ _ _ h => h), h.o4.same fun i hi => hk i (hb i (.inr (.inr (.inr (.inr hi)))) (fun e => h.ne4 (e ▸ hi))), h.d12, h.d14, h.d24⟩
theorem vr_max_of {vr vr' : E.Vr} {ws : List Int} (h : ∀ i, i < 4 → vr'.get i = if i < 4 then max (vr.get i) (ws.getD i 0) else vr.get i) : vr' = vr.max ws := by
  have h0 := h 0 (by decide)
  have h1 := h 1 (by decide)
  have h2 := h 2 (by decide)
  have h3 := h 3 (by decide)
  obtain ⟨a, b, c, d⟩ := vr'
  simp only [E.Vr.get, E.Vr.max] at *
  simp at h0 h1 h2 h3
  simp [h0, h1, h2, h3]
end Go.Proofs.YtcmlmjbpdaecbaaGreat
end
section
namespace Go.Proofs.YtcmlmjbpdaecbaaGreat
set_option linter.unusedVariables false
set_option linter.unusedSimpArgs false
namespace E
theorem put_vr (s : Gr) (v : Vr) (x : Opn) : Gr.put { s with vr := v } x = ({ (s.put x).1 with vr := v }, (s.put x).2) := by
  unfold Gr.put
  dsimp only
  cases AL.get s.es (can s.p x) <;> rfl
theorem puts_vr : ∀ (L : List T.Nd) (s : Gr) (v : Vr) (cl : List Nat), Gr.puts { s with vr := v } cl L = ({ (s.puts cl L).1 with vr := v }, (s.puts cl L).2) := by
  intro L
  induction L with
  | nil => intro s v cl; rfl
  | cons x L ih =>
    intro s v cl
    unfold Gr.puts
    rw [put_vr]
    exact ih (s.put (opOf cl x)).1 v _
theorem vars_vr {s s1 : Gr} {x : T.Nd} (h : s.vars x = some s1) : s1 = { s with vr := s1.vr } := by
  unfold Gr.vars at h
  split at h
  · split at h
    · cases h
    · cases h; rfl
  · cases h; rfl
/-- the operations that Add puts in do not hang on the variables -/
theorem adds_puts : ∀ (L : List T.Nd) {s s' : Gr} {cl cl' : List Nat}, s.adds cl L = some (s', cl') → s' = { (s.puts cl L).1 with vr := s'.vr } ∧ cl' = (s.puts cl L).2 := by
  intro L
  induction L with
  | nil =>
    intro s s' cl cl' h
    unfold Gr.adds at h
    cases h
    exact ⟨rfl, rfl⟩
  | cons x L ih =>
    intro s s' cl cl' h
    unfold Gr.adds at h
    cases hv : s.vars x with
    | none => rw [hv] at h; cases h
    | some s1 =>
      rw [hv] at h
      dsimp only at h
      obtain ⟨h1, h2⟩ := ih h
      have e := vars_vr hv
      have hp := put_vr s s1.vr (opOf cl x)
      rw [← e] at hp
      rw [hp] at h1 h2
      dsimp only at h1 h2
      rw [puts_vr] at h1 h2
      unfold Gr.puts
      exact ⟨h1, h2⟩
/-- a variable with another width: Add fails -/
theorem adds_bad : ∀ (L : List T.Nd) {s : Gr} {cl : List Nat} {x : T.Nd}, (∀ y ∈ L, y.op = 33 → y.imm.toNat < 4) → x ∈ L → x.op = 33 → s.vr.get x.imm.toNat ≠ 0 → s.vr.get x.imm.toNat ≠ x.w → s.adds cl L = none := by
  intro L
  induction L with
  | nil => intro s cl x _ hx; cases hx
  | cons y L ih =>
    intro s cl x h4 hx ho h0 h1
    unfold Gr.adds
    cases hv : s.vars y with
    | none => rfl
    | some s1 =>
      dsimp only
      rcases List.mem_cons.1 hx with rfl | hx
      · unfold Gr.vars at hv
        rw [if_pos ho, if_pos ⟨h0, h1⟩] at hv
        cases hv
      · have hg : s1.vr.get x.imm.toNat = s.vr.get x.imm.toNat := by
          unfold Gr.vars at hv
          split at hv
          · rename_i hy
            split at hv
            · cases hv
            · rename_i hn
              cases hv
              dsimp only
              rw [vr_get_lt (h4 y (List.mem_cons_self ..) hy) _ _ (h4 x (List.mem_cons_of_mem _ hx) ho)]
              by_cases e : x.imm.toNat = y.imm.toNat
              · rw [if_pos e, e]
                rw [e] at h0
                exact Decidable.byContradiction fun hne => hn ⟨h0, fun h => hne h.symm⟩
              · rw [if_neg e]
          · cases hv; rfl
        have hp := put_vr s s1.vr (opOf cl y)
        rw [← vars_vr hv] at hp
        refine ih (fun z hz => h4 z (List.mem_cons_of_mem _ hz)) hx ho ?_ ?_
        · rw [hp]; show s1.vr.get _ ≠ 0; rw [hg]; exact h0
        · rw [hp]; show s1.vr.get _ ≠ x.w; rw [hg]; exact h1
/-- no variable with another width: Add goes on, and notes the widths -/
theorem adds_ok : ∀ (L : List T.Nd) {s : Gr} {cl : List Nat}, (∀ y ∈ L, y.op = 33 → y.imm.toNat < 4) → (∀ y ∈ L, ∀ z ∈ L, y.op = 33 → z.op = 33 → y.imm.toNat = z.imm.toNat → y.w = z.w) → (∀ y ∈ L, y.op = 33 → s.vr.get y.imm.toNat = 0 ∨ s.vr.get y.imm.toNat = y.w) →
    ∃ s' cl', s.adds cl L = some (s', cl') ∧ ∀ i, i < 4 → (∀ y ∈ L, y.op = 33 → y.imm.toNat = i → s'.vr.get i = y.w) ∧ ((∀ y ∈ L, y.op = 33 → y.imm.toNat ≠ i) → s'.vr.get i = s.vr.get i) := by
  intro L
  induction L with
  | nil => intro s cl _ _ _; exact ⟨s, cl, rfl, fun i _ => ⟨(fun y hy => by cases hy), fun _ => rfl⟩⟩
  | cons y L ih =>
    intro s cl h4 hone hg
    have hy := hg y (List.mem_cons_self ..)
    obtain ⟨s1, hv, hv1⟩ : ∃ s1, s.vars y = some s1 ∧ ∀ i, i < 4 → s1.vr.get i = if y.op = 33 ∧ i = y.imm.toNat then y.w else s.vr.get i := by
      unfold Gr.vars
      by_cases ho : y.op = 33
      · rw [if_pos ho, if_neg (fun h => (hy ho).elim h.1 h.2)]
        refine ⟨_, rfl, fun i hi => ?_⟩
        dsimp only
        rw [vr_get_lt (h4 y (List.mem_cons_self ..) ho) _ _ hi]
        simp [ho]
      · rw [if_neg ho]
        exact ⟨s, rfl, fun i _ => by rw [if_neg (fun h => ho h.1)]⟩
    have hp := put_vr s s1.vr (opOf cl y)
    rw [← vars_vr hv] at hp
    have hvr : (s1.put (opOf cl y)).1.vr = s1.vr := by rw [hp]
    obtain ⟨s', cl', h1, h2⟩ := ih (s := (s1.put (opOf cl y)).1) (cl := cl ++ [(s1.put (opOf cl y)).2.1]) (fun z hz => h4 z (List.mem_cons_of_mem _ hz)) (fun a ha b hb => hone a (List.mem_cons_of_mem _ ha) b (List.mem_cons_of_mem _ hb)) (fun z hz ho => by
      rw [hvr, hv1 _ (h4 z (List.mem_cons_of_mem _ hz) ho)]
      split
      · rename_i e
        exact .inr (hone y (List.mem_cons_self ..) z (List.mem_cons_of_mem _ hz) e.1 ho e.2.symm)
      · exact hg z (List.mem_cons_of_mem _ hz) ho)
    refine ⟨s', cl', ?_, fun i hi => ?_⟩
    · unfold Gr.adds
      rw [hv]
      exact h1
    · obtain ⟨g1, g2⟩ := h2 i hi
      rw [hvr, hv1 i hi] at g2
      have key : ∀ z ∈ y :: L, z.op = 33 → z.imm.toNat = i → s'.vr.get i = z.w := fun z hz ho e => by
        by_cases hex : ∃ a ∈ L, a.op = 33 ∧ a.imm.toNat = i
        · obtain ⟨a, ha, ao, ae⟩ := hex
          rw [g1 a ha ao ae]
          exact hone a (List.mem_cons_of_mem _ ha) z hz ao ho (by rw [ae, e])
        · rcases List.mem_cons.1 hz with rfl | hz
          · rw [g2 (fun a ha ao ae => hex ⟨a, ha, ao, ae⟩), if_pos ⟨ho, e.symm⟩]
          · exact absurd ⟨z, hz, ho, e⟩ hex
      refine ⟨key, fun hno => ?_⟩
      rw [g2 (fun a ha ao => hno a (List.mem_cons_of_mem _ ha) ao), if_neg (fun h => hno y (List.mem_cons_self ..) h.1 h.2.symm)]
end E
end Go.Proofs.YtcmlmjbpdaecbaaGreat
end
section
namespace Go.Proofs.YtcmlmjbpdaecbaaGreat
set_option linter.unusedVariables false
set_option linter.unusedSimpArgs false
namespace E
theorem RShut.cong {p p1 : List Nat} {es es1 : List (Opn × Nat)} (h : RShut p es p1 es1) : Cong (Eq1 p1) es := quiet_cong h.mid.rep h.nd h.keys
theorem Shut.cong {p p1 : List Nat} {es es1 : List (Opn × Nat)} (h : Shut p es p1 es1) : Cong (Eq1 p1) es := quiet_cong h.mid.rep h.nd h.keys
/-- two ends of the same start (operations in any order, classes as they stand for): the classes of the one lie in those of the other -/
theorem Mid.le {p q p1 q1 : List Nat} {es fs es1 fs1 : List (Opn × Nat)} (h : Mid p es p1 es1) (k : Mid q fs q1 fs1) (hc : Cong (Eq1 q1) fs) (dq : Down q) (hpq : ∀ c, root p c = root q c) (he : ∀ e ∈ es, ∃ f ∈ fs, f.1 = e.1 ∧ root q f.2 = root q e.2) {a b : Nat} (hab : Eq1 p1 a b) : Eq1 q1 a b := by
  have hs : Sound (Eq1 q1) p := fun c => by
    rw [hpq]
    exact k.coarse c (root q c) (root_root dq c).symm
  have hr : ∀ a : Int, Rel (Eq1 q1) a a := fun a => by
    rcases Int.lt_or_le a 0 with h | h
    · exact .inl ⟨h, rfl⟩
    · exact .inr ⟨h, h, rfl⟩
  have hce : Cong (Eq1 q1) es := fun y hy z hz hyz => by
    obtain ⟨f, hf, f1, f2⟩ := he y hy
    obtain ⟨g, hg, g1, g2⟩ := he z hz
    have h1 : Eq1 q1 f.2 g.2 := hc f hf g hg (by rw [f1, g1]; exact hyz)
    have h2 : Eq1 q1 f.2 y.2 := k.coarse _ _ f2
    have h3 : Eq1 q1 g.2 z.2 := k.coarse _ _ g2
    exact h2.symm.trans (h1.trans h3)
  have hg : ∀ e ∈ es, Good (Eq1 q1) es e := fun e he' => ⟨e, he', ⟨⟨rfl, rfl, rfl⟩, hr _, hr _, hr _⟩, rfl⟩
  exact eq1_of_sound (eq1_eqv q1) (h.sound (Eq1 q1) es (eq1_eqv q1) hce hs hg).1 hab
theorem can_of_roots {p q : List Nat} (h : ∀ c, root p c = root q c) (x : Opn) : can p x = can q x := by
  unfold can
  have : ∀ a, cr p a = cr q a := fun a => by unfold cr; rw [h]
  rw [this, this, this]
/-- .. and each operation of the one is one of the other, with the same class -/
theorem Mid.keys_le {p q p1 q1 : List Nat} {es fs es1 fs1 : List (Opn × Nat)} (h : Mid p es p1 es1) (k : Mid q fs q1 fs1) (dp : Down p) (hc : Cong (Eq1 p1) es) (hk1 : ∀ e ∈ es1, can p1 e.1 = e.1) (hk2 : ∀ f ∈ fs1, can q1 f.1 = f.1) (hr : ∀ c, root p1 c = root q1 c) (hpq : ∀ c, root p c = root q c) (he : ∀ e ∈ es, ∃ f ∈ fs, f.1 = e.1 ∧ root q f.2 = root q e.2) : ∀ e ∈ es1, ∃ f ∈ fs1, f.1 = e.1 ∧ root q1 f.2 = root q1 e.2 := by
  intro e he1
  have hs : Sound (Eq1 p1) p := fun c => h.coarse c (root p c) (root_root dp c).symm
  have hrf : ∀ a : Int, Rel (Eq1 p1) a a := fun a => by
    rcases Int.lt_or_le a 0 with h | h
    · exact .inl ⟨h, rfl⟩
    · exact .inr ⟨h, h, rfl⟩
  obtain ⟨y, hy, y1, y2⟩ := (h.sound (Eq1 p1) es (eq1_eqv p1) hc hs (fun e he' => ⟨e, he', ⟨⟨rfl, rfl, rfl⟩, hrf _, hrf _, hrf _⟩, rfl⟩)).2 e he1
  obtain ⟨f, hf, f1, f2⟩ := he y hy
  obtain ⟨m, hm, m1, m2⟩ := k.rep f hf
  refine ⟨m, hm, ?_, ?_⟩
  · rw [hk2 m hm, f1, ← can_of_roots hr, ← can_of_sim y1, hk1 e he1] at m1
    exact m1
  · rw [m2, k.coarse _ _ f2, ← hr, ← hr]
    exact y2.symm
end E
end Go.Proofs.YtcmlmjbpdaecbaaGreat
end
section
namespace Go.Proofs.YtcmlmjbpdaecbaaGreat
set_option linter.unusedVariables false
set_option linter.unusedSimpArgs false
namespace E
/-- the same classes, widths, names, variables; the same operations, in any order -/
structure Alike (s r : Gr) : Prop where
  len : s.p.length = r.p.length
  rt : ∀ c, root s.p c = root r.p c
  wd : s.wd = r.wd
  nm : s.nm = r.nm
  vr : s.vr = r.vr
  l : ∀ e ∈ s.es, ∃ f ∈ r.es, f.1 = e.1 ∧ root r.p f.2 = root r.p e.2
  back : ∀ f ∈ r.es, ∃ e ∈ s.es, e.1 = f.1 ∧ root s.p e.2 = root s.p f.2
  nd1 : (s.es.map Prod.fst).Nodup
  nd2 : (r.es.map Prod.fst).Nodup
theorem get_nd {l : List (Opn × Nat)} (hn : (l.map Prod.fst).Nodup) {x : Opn} {c : Nat} (h : (x, c) ∈ l) : AL.get l x = some c := by
  obtain ⟨i, hi⟩ := List.getElem?_of_mem h
  exact AL.get_some hn hi
theorem Alike.get_some {s r : Gr} (h : Alike s r) {x : Opn} {c : Nat} (hc : AL.get s.es x = some c) : ∃ d, AL.get r.es x = some d ∧ root r.p d = root s.p c := by
  obtain ⟨f, hf, f1, f2⟩ := h.l _ (get_in hc)
  exact ⟨f.2, get_nd h.nd2 (by have := hf; rwa [← Prod.eta f, f1] at this), by rw [f2, h.rt]⟩
theorem Alike.get_none {s r : Gr} (h : Alike s r) {x : Opn} (hc : AL.get s.es x = none) : AL.get r.es x = none := by
  cases hd : AL.get r.es x with
  | none => rfl
  | some d =>
    obtain ⟨e, he, e1, _⟩ := h.back _ (get_in hd)
    have := get_nd h.nd1 (x := x) (c := e.2) (by have := he; rwa [← Prod.eta e, e1] at this)
    rw [hc] at this
    cases this
theorem Alike.put {s r : Gr} (h : Alike s r) (ds : Down s.p) (dr : Down r.p) (x : Opn) : (s.put x).2 = (r.put x).2 ∧ ((s.put x).2.2 = false → (s.put x).1 = s ∧ (r.put x).1 = r) := by
  have hcan := can_of_roots h.rt x
  cases hc : AL.get s.es (can s.p x) with
  | some c =>
    obtain ⟨d, hd, e⟩ := h.get_some hc
    rw [hcan] at hd
    rw [Gr.put_some hc, Gr.put_some hd]
    exact ⟨by rw [e], fun _ => ⟨rfl, rfl⟩⟩
  | none =>
    have hd := h.get_none hc
    rw [hcan] at hd
    rw [Gr.put_none hc, Gr.put_none hd]
    exact ⟨by rw [h.len], fun h => by cases h⟩
theorem nd_app {l : List (Opn × Nat)} {x : Opn} {c : Nat} (h : (l.map Prod.fst).Nodup) (hn : AL.get l x = none) : ((l ++ [(x, c)]).map Prod.fst).Nodup := by
  rw [List.map_append, List.nodup_append]
  refine ⟨h, by simp, fun a ha b hb e => ?_⟩
  simp at hb
  subst hb e
  obtain ⟨z, hz, rfl⟩ := List.mem_map.1 ha
  have := get_nd h (x := z.1) (c := z.2) hz
  rw [hn] at this
  cases this
/-- an operation put in: alike still -/
theorem Alike.put_ {s r : Gr} (h : Alike s r) (ds : Down s.p) (dr : Down r.p) (x : Opn) : Alike (s.put x).1 (r.put x).1 := by
  have hcan := can_of_roots h.rt x
  cases hc : AL.get s.es (can s.p x) with
  | some c =>
    obtain ⟨d, hd, e⟩ := h.get_some hc
    rw [hcan] at hd
    rw [Gr.put_some hc, Gr.put_some hd]
    exact h
  | none =>
    have hd := h.get_none hc
    have hd' := hd
    rw [hcan] at hd'
    rw [Gr.put_none hc, Gr.put_none hd']
    refine ⟨by simp [h.len], fun c => ?_, ?_, h.nm, h.vr, fun e he => ?_, fun f hf => ?_, nd_app h.nd1 hc, nd_app h.nd2 hd'⟩
    · show root (s.p ++ [s.p.length]) c = root (r.p ++ [r.p.length]) c
      rw [root_app ds, root_app dr, h.rt]
    · show s.wd ++ [x.w] = r.wd ++ [x.w]
      rw [h.wd]
    · rcases List.mem_append.1 he with he | he
      · obtain ⟨f, hf, f1, f2⟩ := h.l e he
        refine ⟨f, List.mem_append_left _ hf, f1, ?_⟩
        show root (r.p ++ [r.p.length]) f.2 = root (r.p ++ [r.p.length]) e.2
        rw [root_app dr, root_app dr, f2]
      · simp at he
        subst he
        exact ⟨(can r.p x, r.p.length), List.mem_append_right _ (by simp), hcan.symm, by rw [h.len]⟩
    · rcases List.mem_append.1 hf with hf | hf
      · obtain ⟨e, he, e1, e2⟩ := h.back f hf
        refine ⟨e, List.mem_append_left _ he, e1, ?_⟩
        show root (s.p ++ [s.p.length]) e.2 = root (s.p ++ [s.p.length]) f.2
        rw [root_app ds, root_app ds, e2]
      · simp at hf
        subst hf
        exact ⟨(can s.p x, s.p.length), List.mem_append_right _ (by simp), hcan, by rw [h.len]⟩
theorem put_down {s : Gr} (h : Down s.p) (x : Opn) : Down (s.put x).1.p := by
  cases hc : AL.get s.es (can s.p x) with
  | some c => rw [Gr.put_some hc]; exact h
  | none => rw [Gr.put_none hc]; exact down_app h
/-- .. behind the operations of a list, with the same classes -/
theorem Alike.puts : ∀ (L : List T.Nd) {s r : Gr} {cl : List Nat}, Alike s r → Down s.p → Down r.p → Alike (s.puts cl L).1 (r.puts cl L).1 ∧ (s.puts cl L).2 = (r.puts cl L).2 ∧ Down (s.puts cl L).1.p ∧ Down (r.puts cl L).1.p := by
  intro L
  induction L with
  | nil => intro s r cl h ds dr; exact ⟨h, rfl, ds, dr⟩
  | cons x L ih =>
    intro s r cl h ds dr
    have h1 := (h.put ds dr (opOf cl x)).1
    have h2 := h.put_ ds dr (opOf cl x)
    unfold Gr.puts
    rw [h1]
    exact ih h2 (put_down ds _) (put_down dr _)
end E
end Go.Proofs.YtcmlmjbpdaecbaaGreat
end
section
namespace Go.Proofs.YtcmlmjbpdaecbaaGreat
open Go.RowKit
theorem Gro.qlist_all : ∀ (l : List Oper) (k : Nat), Gro.qlist (fun _ => false) k l = l
  | [], _ => rfl
  | o :: r, k => by show o :: Gro.qlist (fun _ => false) (k + 1) r = _; rw [Gro.qlist_all r (k + 1)]
theorem wp_region_rd {P : Program} {id : Nat} {Q : Exit → Act → World → Prop} {a : Act} {W : World} {l : List Oper} (n : Nat) (af : Act)
    (hm : P.follows .mixedOrders = true) (hsp : splitB l n = true) (hsz : (l.take n).toArray.size = n) (hB : Gro.groB .any (l.take n).toArray (fun _ => false) = true) (hS : Gro.slotsG (l.take n).toArray (fun _ => false) a.tmps.size = true) (hU : Gro.useB .any (l.take n).toArray (fun _ => false) (fun k => k) (fun _ => none) = true)
    (hq : ∀ X, Below W.heap.size W X → ∀ ov : Ov X, wpQuiet P (l.take n).toArray (fun w' => ∃ u, w' = ov.f u) (fun a' => a' = af) (l.take n) a)
    (hK : ∀ w, Below W.heap.size W w → wpList P l.toArray Q (l.drop n) af w) :
    (Code.region id l.toArray true).wp P Q a W := by
  refine wp_region_gro n (fun _ => false) (fun _ => none) (fun k => k) (fun _ => none) (fun _ _ _ => True) af hm hsp hsz hB hS hU (fun X hX ov => ?_) (fun _ _ _ _ _ _ _ _ => trivial) (fun _ _ _ h => by cases h) (fun _ _ h => by cases h) (fun _ _ h => by cases h) (fun g w hb _ _ _ => ?_)
  · rw [Gro.qlist_all]; exact hq X hX ov
  · have := hK w hb
    rw [show (List.range n).foldl (fun a' k => if (false = true) then a'.put (Rg.dst (l.take n).toArray k) (g k) else a') af = af from by
      generalize List.range n = r
      induction r with
      | nil => rfl
      | cons _ r ih => exact ih]
    exact this
end Go.Proofs.YtcmlmjbpdaecbaaGreat
end
