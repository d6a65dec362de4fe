/- Graphs (the program): what Add holds while it puts nodes in. -/
import Derived.Test.YtcmlmjbpdaecbaaGreatC26
set_option linter.unusedVariables false
set_option linter.unusedSimpArgs false
namespace Go.Proofs.YtcmlmjbpdaecbaaGreat
open Go.RowKit Go.MapKept Go.Maps Go.WideMaps
set_option linter.unusedVariables false
set_option linter.unusedSimpArgs false

section
variable {w w' : World} {b : Nat} {p : List Nat} {wd : List Int} {es kn : List (E.Opn × Nat)} {nm : List Nat} {vr : E.Vr} {v1 v2 v3 v4 : Value} {kb : Nat}
/-- the width of a variable -/
theorem GrC.varAt (h : GrC w b p wd es kn nm vr v1 v2 v3 v4 kb) {i : Nat} (hi : i < 4) : w.cell? ⟨b, 5 + i, none⟩ = some (.int .i64 (vr.get i)) := by
  rw [cell_of_row _ _ _ _ _ (0, 0) h.row]
  rcases (show i = 0 ∨ i = 1 ∨ i = 2 ∨ i = 3 by omega) with rfl | rfl | rfl | rfl <;> rfl
theorem GrC.setV (h : GrC w b p wd es kn nm vr v1 v2 v3 v4 kb) {i : Nat} (hi : i < 4) (x : Int) : GrC (w.setCell ⟨b, 5 + i, none⟩ (.int .i64 x)) b p wd es kn nm (vr.set i x) v1 v2 v3 v4 kb := by
  have hk : ∀ j, j ≠ b → (w.setCell ⟨b, 5 + i, none⟩ (.int .i64 x)).heap[j]? = w.heap[j]? := fun j hj => Below.heap_setCell _ _ _ j hj
  refine ⟨?_, h.o1.same fun j hj => hk j (fun e => h.ne1 (e ▸ hj)), h.o2.same fun j hj => hk j (fun e => h.ne2 (e ▸ hj)), h.o3.same fun j hj => hk j (fun e => h.ne3 (e ▸ hj)), h.km.keep (hk kb h.kne) (fun _ _ _ h => h), h.o4.same fun j hj => hk j (fun e => h.ne4 (e ▸ hj)), h.d12, h.d14, h.d24⟩
  rw [heap_setCell_same _ b (5 + i) _ _ _ h.row]
  rcases (show i = 0 ∨ i = 1 ∨ i = 2 ∨ i = 3 by omega) with rfl | rfl | rfl | rfl <;> rfl
/-- the head of another graph is laid over a head -/
theorem GrC.move {b' : Nat} (h : GrC w b p wd es kn nm vr v1 v2 v3 v4 kb) (hr : w'.heap[b']? = some (.cells #[v1, v2, v3, .map (some kb), v4, .int .i64 vr.a, .int .i64 vr.b, .int .i64 vr.c, .int .i64 vr.d] 80 (0, 0))) (hk : ∀ i, i ≠ b' → w'.heap[i]? = w.heap[i]?) (hb : ∀ i, MG b v1 v2 v3 v4 kb i → i ≠ b → i ≠ b') : GrC w' b' p wd es kn nm vr v1 v2 v3 v4 kb :=
  ⟨hr, h.o1.same fun i hi => hk i (hb i (.inr (.inr (.inl hi))) (fun e => h.ne1 (e ▸ hi))), h.o2.same fun i hi => hk i (hb i (.inr (.inr (.inr (.inl hi)))) (fun e => h.ne2 (e ▸ hi))), h.o3.same fun i hi => hk i (hb i (.inr (.inr (.inr (.inr (.inl hi))))) (fun e => h.ne3 (e ▸ hi))), h.km.keep (hk kb (hb kb (.inr (.inl rfl)) h.kne)) (fun _ _ _ h => h), h.o4.same fun i hi => hk i (hb i (.inr (.inr (.inr (.inr (.inr hi))))) (fun e => h.ne4 (e ▸ hi))), h.d12, h.d14, h.d24⟩
end

theorem set9_row {w : World} {g : Nat} {T : TypeId} {a0 a1 a2 a3 a4 a5 a6 a7 a8 : Value} (h : w.heap[g]? = some (.cells #[a0, a1, a2, a3, a4, a5, a6, a7, a8] T (0, 0))) (q0 q1 q2 q3 q4 q5 q6 q7 q8 : Value) :
    (((((((((w.setCell ⟨g, 0, none⟩ q0).setCell ⟨g, 1, none⟩ q1).setCell ⟨g, 2, none⟩ q2).setCell ⟨g, 3, none⟩ q3).setCell ⟨g, 4, none⟩ q4).setCell ⟨g, 5, none⟩ q5).setCell ⟨g, 6, none⟩ q6).setCell ⟨g, 7, none⟩ q7).setCell ⟨g, 8, none⟩ q8).heap[g]? = some (.cells #[q0, q1, q2, q3, q4, q5, q6, q7, q8] T (0, 0)) := by
  have h0 : (w.setCell ⟨g, 0, none⟩ q0).heap[g]? = some (.cells #[q0, a1, a2, a3, a4, a5, a6, a7, a8] T (0, 0)) := heap_setCell_same _ g 0 _ _ q0 h
  have h1 : ((w.setCell ⟨g, 0, none⟩ q0).setCell ⟨g, 1, none⟩ q1).heap[g]? = some (.cells #[q0, q1, a2, a3, a4, a5, a6, a7, a8] T (0, 0)) := heap_setCell_same _ g 1 _ _ q1 h0
  have h2 : (((w.setCell ⟨g, 0, none⟩ q0).setCell ⟨g, 1, none⟩ q1).setCell ⟨g, 2, none⟩ q2).heap[g]? = some (.cells #[q0, q1, q2, a3, a4, a5, a6, a7, a8] T (0, 0)) := heap_setCell_same _ g 2 _ _ q2 h1
  have h3 : ((((w.setCell ⟨g, 0, none⟩ q0).setCell ⟨g, 1, none⟩ q1).setCell ⟨g, 2, none⟩ q2).setCell ⟨g, 3, none⟩ q3).heap[g]? = some (.cells #[q0, q1, q2, q3, a4, a5, a6, a7, a8] T (0, 0)) := heap_setCell_same _ g 3 _ _ q3 h2
  have h4 : (((((w.setCell ⟨g, 0, none⟩ q0).setCell ⟨g, 1, none⟩ q1).setCell ⟨g, 2, none⟩ q2).setCell ⟨g, 3, none⟩ q3).setCell ⟨g, 4, none⟩ q4).heap[g]? = some (.cells #[q0, q1, q2, q3, q4, a5, a6, a7, a8] T (0, 0)) := heap_setCell_same _ g 4 _ _ q4 h3
  have h5 : ((((((w.setCell ⟨g, 0, none⟩ q0).setCell ⟨g, 1, none⟩ q1).setCell ⟨g, 2, none⟩ q2).setCell ⟨g, 3, none⟩ q3).setCell ⟨g, 4, none⟩ q4).setCell ⟨g, 5, none⟩ q5).heap[g]? = some (.cells #[q0, q1, q2, q3, q4, q5, a6, a7, a8] T (0, 0)) := heap_setCell_same _ g 5 _ _ q5 h4
  have h6 : (((((((w.setCell ⟨g, 0, none⟩ q0).setCell ⟨g, 1, none⟩ q1).setCell ⟨g, 2, none⟩ q2).setCell ⟨g, 3, none⟩ q3).setCell ⟨g, 4, none⟩ q4).setCell ⟨g, 5, none⟩ q5).setCell ⟨g, 6, none⟩ q6).heap[g]? = some (.cells #[q0, q1, q2, q3, q4, q5, q6, a7, a8] T (0, 0)) := heap_setCell_same _ g 6 _ _ q6 h5
  have h7 : ((((((((w.setCell ⟨g, 0, none⟩ q0).setCell ⟨g, 1, none⟩ q1).setCell ⟨g, 2, none⟩ q2).setCell ⟨g, 3, none⟩ q3).setCell ⟨g, 4, none⟩ q4).setCell ⟨g, 5, none⟩ q5).setCell ⟨g, 6, none⟩ q6).setCell ⟨g, 7, none⟩ q7).heap[g]? = some (.cells #[q0, q1, q2, q3, q4, q5, q6, q7, a8] T (0, 0)) := heap_setCell_same _ g 7 _ _ q7 h6
  have h8 : (((((((((w.setCell ⟨g, 0, none⟩ q0).setCell ⟨g, 1, none⟩ q1).setCell ⟨g, 2, none⟩ q2).setCell ⟨g, 3, none⟩ q3).setCell ⟨g, 4, none⟩ q4).setCell ⟨g, 5, none⟩ q5).setCell ⟨g, 6, none⟩ q6).setCell ⟨g, 7, none⟩ q7).setCell ⟨g, 8, none⟩ q8).heap[g]? = some (.cells #[q0, q1, q2, q3, q4, q5, q6, q7, q8] T (0, 0)) := heap_setCell_same _ g 8 _ _ q8 h7
  exact h8
theorem set9_other {w : World} {g : Nat} (q0 q1 q2 q3 q4 q5 q6 q7 q8 : Value) : ∀ i, i ≠ g → (((((((((w.setCell ⟨g, 0, none⟩ q0).setCell ⟨g, 1, none⟩ q1).setCell ⟨g, 2, none⟩ q2).setCell ⟨g, 3, none⟩ q3).setCell ⟨g, 4, none⟩ q4).setCell ⟨g, 5, none⟩ q5).setCell ⟨g, 6, none⟩ q6).setCell ⟨g, 7, none⟩ q7).setCell ⟨g, 8, none⟩ q8).heap[i]? = w.heap[i]? := fun i hi => by
  rw [Below.heap_setCell _ _ _ i hi, Below.heap_setCell _ _ _ i hi, Below.heap_setCell _ _ _ i hi, Below.heap_setCell _ _ _ i hi, Below.heap_setCell _ _ _ i hi, Below.heap_setCell _ _ _ i hi, Below.heap_setCell _ _ _ i hi, Below.heap_setCell _ _ _ i hi, Below.heap_setCell _ _ _ i hi]
theorem set9_kpm {W w : World} {g : Nat} (h : Kpm (fun i => i = g) W w) (q0 q1 q2 q3 q4 q5 q6 q7 q8 : Value) : Kpm (fun i => i = g) W (((((((((w.setCell ⟨g, 0, none⟩ q0).setCell ⟨g, 1, none⟩ q1).setCell ⟨g, 2, none⟩ q2).setCell ⟨g, 3, none⟩ q3).setCell ⟨g, 4, none⟩ q4).setCell ⟨g, 5, none⟩ q5).setCell ⟨g, 6, none⟩ q6).setCell ⟨g, 7, none⟩ q7).setCell ⟨g, 8, none⟩ q8) :=
  (((((((((h.setCell (p := ⟨g, 0, none⟩) (fun _ => rfl) _).setCell (p := ⟨g, 1, none⟩) (fun _ => rfl) _).setCell (p := ⟨g, 2, none⟩) (fun _ => rfl) _).setCell (p := ⟨g, 3, none⟩) (fun _ => rfl) _).setCell (p := ⟨g, 4, none⟩) (fun _ => rfl) _).setCell (p := ⟨g, 5, none⟩) (fun _ => rfl) _).setCell (p := ⟨g, 6, none⟩) (fun _ => rfl) _).setCell (p := ⟨g, 7, none⟩) (fun _ => rfl) _).setCell (p := ⟨g, 8, none⟩) (fun _ => rfl) _)
theorem row9_cells {w : World} {g : Nat} {T : TypeId} {a0 a1 a2 a3 a4 a5 a6 a7 a8 : Value} (h : w.heap[g]? = some (.cells #[a0, a1, a2, a3, a4, a5, a6, a7, a8] T (0, 0))) :
    w.cell? ⟨g, 0, none⟩ = some a0 ∧ w.cell? ⟨g, 1, none⟩ = some a1 ∧ w.cell? ⟨g, 2, none⟩ = some a2 ∧ w.cell? ⟨g, 3, none⟩ = some a3 ∧ w.cell? ⟨g, 4, none⟩ = some a4 ∧ w.cell? ⟨g, 5, none⟩ = some a5 ∧ w.cell? ⟨g, 6, none⟩ = some a6 ∧ w.cell? ⟨g, 7, none⟩ = some a7 ∧ w.cell? ⟨g, 8, none⟩ = some a8 := by
  refine ⟨?_, ?_, ?_, ?_, ?_, ?_, ?_, ?_, ?_⟩
  all_goals rw [cell_of_row _ _ _ _ _ (0, 0) h]; rfl

/-- the graph that Add makes, and the classes of the nodes so far -/
structure AddI (W : World) (s0 : E.Gr) (L : List T.Nd) (gb gc : Nat) (k : Nat) (s : E.Gr) (cls : List Nat) (u1 u2 u3 u4 : Value) (km : Nat) (w : World) : Prop where
  ng : NewGr W s.p s.wd s.es s.es s.nm s.vr w gb u1 u2 u3 u4 km
  own : OwnAt w 3 1 (.slice (some ⟨gc, 0, none⟩) L.length L.length) L.length (ivs cls)
  gc1 : W.heap.size ≤ gc
  gc2 : ∀ i, MG gb u1 u2 u3 u4 km i → i ≠ gc
  len : cls.length = L.length
  told : s0.adds [] L = s.adds (cls.take k) (L.drop k)
  ok : s.Ok
  owf : ∀ e ∈ s.es, OWf e.1
  lp : s.p.length ≤ s0.p.length + k
  le : s.es.length ≤ s0.es.length + k
  nm : s.nm = s0.nm
  lo : ∀ c ∈ cls.take k, c < s.p.length

theorem AddI.gcw {W : World} {s0 : E.Gr} {L : List T.Nd} {gb gc k : Nat} {s : E.Gr} {cls : List Nat} {u1 u2 u3 u4 : Value} {km : Nat} {w : World} (h : AddI W s0 L gb gc k s cls u1 u2 u3 u4 km w) : gc < w.heap.size := h.own.lt gc (by simp [Value.ownBlock])
theorem AddI.below {W : World} {s0 : E.Gr} {L : List T.Nd} {gb gc k : Nat} {s : E.Gr} {cls : List Nat} {u1 u2 u3 u4 : Value} {km : Nat} {w w' : World} (h : AddI W s0 L gb gc k s cls u1 u2 u3 u4 km w) (hb : Below w.heap.size w w') : AddI W s0 L gb gc k s cls u1 u2 u3 u4 km w' :=
  ⟨⟨h.ng.gr.below hb, h.ng.bel.trans (hb.mono h.ng.bel.size), h.ng.new⟩, h.own.below hb h.own.lt, h.gc1, h.gc2, h.len, h.told, h.ok, h.owf, h.lp, h.le, h.nm, h.lo⟩

/-- the graph in which a variable has its width -/
structure AddV (W : World) (s0 : E.Gr) (L : List T.Nd) (gb gc : Nat) (k : Nat) (x : T.Nd) (s1 : E.Gr) (cls : List Nat) (u1 u2 u3 u4 : Value) (km : Nat) (w : World) : Prop where
  ng : NewGr W s1.p s1.wd s1.es s1.es s1.nm s1.vr w gb u1 u2 u3 u4 km
  own : OwnAt w 3 1 (.slice (some ⟨gc, 0, none⟩) L.length L.length) L.length (ivs cls)
  gc1 : W.heap.size ≤ gc
  gc2 : ∀ i, MG gb u1 u2 u3 u4 km i → i ≠ gc
  len : cls.length = L.length
  told : s0.adds [] L = (s1.put (E.opOf (cls.take k) x)).1.adds (cls.take k ++ [(s1.put (E.opOf (cls.take k) x)).2.1]) (L.drop (k + 1))
  ok : s1.Ok
  owf : ∀ e ∈ s1.es, OWf e.1
  lp : s1.p.length ≤ s0.p.length + k
  le : s1.es.length ≤ s0.es.length + k
  nm : s1.nm = s0.nm
  lo : ∀ c ∈ cls.take k, c < s1.p.length
theorem AddV.below {W : World} {s0 : E.Gr} {L : List T.Nd} {gb gc k : Nat} {x : T.Nd} {s : E.Gr} {cls : List Nat} {u1 u2 u3 u4 : Value} {km : Nat} {w w' : World} (h : AddV W s0 L gb gc k x s cls u1 u2 u3 u4 km w) (hb : Below w.heap.size w w') : AddV W s0 L gb gc k x s cls u1 u2 u3 u4 km w' :=
  ⟨⟨h.ng.gr.below hb, h.ng.bel.trans (hb.mono h.ng.bel.size), h.ng.new⟩, h.own.below hb h.own.lt, h.gc1, h.gc2, h.len, h.told, h.ok, h.owf, h.lp, h.le, h.nm, h.lo⟩

section
variable {W : World} {s0 : E.Gr} {L : List T.Nd} {gb gc k : Nat} {s : E.Gr} {cls : List Nat} {u1 u2 u3 u4 : Value} {km : Nat} {w w' : World} {x : T.Nd}
theorem AddI.vars (h : AddI W s0 L gb gc k s cls u1 u2 u3 u4 km w) (hx : L[k]? = some x) {s1 : E.Gr} (hv : s.vars x = some s1) (hg : GrC w' gb s.p s.wd s.es s.es s.nm s1.vr u1 u2 u3 u4 km) (hw : ∀ i, i ≠ gb → w'.heap[i]? = w.heap[i]?) (hb : Below W.heap.size w w') : AddV W s0 L gb gc k x s1 cls u1 u2 u3 u4 km w' := by
  obtain ⟨e1, e2, e3, e4⟩ := E.Gr.vars_eq hv
  have ht := h.told
  rw [drop_cons hx, E.Gr.adds_cons, hv] at ht
  refine ⟨⟨?_, h.ng.bel.trans hb, h.ng.new⟩, h.own.same fun i hi => hw i (fun e => h.gc2 gb (.inl rfl) (by rw [← e]; simpa [Value.ownBlock] using hi.symm)), h.gc1, h.gc2, h.len, ht, ?_, ?_, ?_, ?_, ?_, ?_⟩
  · rw [e1, e2, e3, e4]; exact hg
  · have := h.ok; unfold E.Gr.Ok at this ⊢; rw [e1, e2, e3, e4]; exact this
  · rw [e3]; exact h.owf
  · rw [e1]; exact h.lp
  · rw [e3]; exact h.le
  · rw [e4]; exact h.nm
  · rw [e1]; exact h.lo
theorem AddI.refuse (h : AddI W s0 L gb gc k s cls u1 u2 u3 u4 km w) (hx : L[k]? = some x) (hv : s.vars x = none) : s0.adds [] L = none := by
  have ht := h.told
  rw [drop_cons hx, E.Gr.adds_cons, hv] at ht
  exact ht
/-- the operands of a node, as classes -/
theorem args_ok (h : AddV W s0 L gb gc k x s cls u1 u2 u3 u4 km w) (hn : E.NdOk x) (hi : 0 ≤ x.imm ∧ x.imm < 4294967296) (ha : ∀ a ∈ x.args, 0 ≤ a ∧ a < (k : Int)) (hk : k ≤ L.length) (hp : s.p.length ≤ 900000) :
    E.Ar s.p.length (E.opOf (cls.take k) x) ∧ OWf (E.opOf (cls.take k) x) := by
  have hlen : (cls.take k).length = k := by rw [List.length_take, h.len]; omega
  have hg : ∀ i, E.ArOk s.p.length ((x.args.map fun a => (((cls.take k).getD a.toNat 0 : Nat) : Int)).getD i (-1)) := fun i => by
    rw [List.getD_eq_getElem?_getD]
    cases e : (x.args.map fun a => (((cls.take k).getD a.toNat 0 : Nat) : Int))[i]? with
    | none => exact .inl rfl
    | some z =>
      rw [List.getElem?_map] at e
      cases e2 : x.args[i]? with
      | none => rw [e2] at e; cases e
      | some a =>
        rw [e2] at e
        simp only [Option.map_some, Option.some.injEq] at e
        have := ha a (List.mem_of_getElem? e2)
        have h1 : (cls.take k).getD a.toNat 0 ∈ cls.take k := by
          rw [List.getD_eq_getElem?_getD, List.getElem?_eq_getElem (by omega)]
          exact List.getElem_mem _
        have := h.lo _ h1
        refine .inr ⟨?_, ?_⟩
        · show 0 ≤ z; omega
        · show z < _; omega
  have hAr : E.Ar s.p.length (E.opOf (cls.take k) x) := ⟨hg 0, hg 1, hg 2⟩
  exact ⟨hAr, ⟨⟨by have := hn.op; show _ ≤ x.op; omega, by have := hn.op; show x.op ≤ _; omega⟩, ⟨by have := hn.w; show _ ≤ x.w; omega, by have := hn.w; show x.w ≤ _; omega⟩, hi, arOk_i64 (by omega) hAr.1, arOk_i64 (by omega) hAr.2.1, arOk_i64 (by omega) hAr.2.2⟩⟩

/-- an operation is put in, and its class is noted -/
theorem AddV.put {e : Ending} {u1' u2' u3' : Value} (h : AddV W s0 L gb gc k x s cls u1 u2 u3 u4 km w) (hk : k < L.length) (har : E.Ar s.p.length (E.opOf (cls.take k) x)) (hwf : OWf (E.opOf (cls.take k) x)) (hlp : s.p.length ≤ 900000) (hp : PutPost w gb s (E.opOf (cls.take k) x) u1 u2 u3 u4 km e w' u1' u2' u3') :
    AddI W s0 L gb gc (k + 1) (s.put (E.opOf (cls.take k) x)).1 (cls.set k (s.put (E.opOf (cls.take k) x)).2.1) u1' u2' u3' u4 km (w'.setCell ⟨gc, 0 + k, none⟩ (.int .i64 ((s.put (E.opOf (cls.take k) x)).2.1 : Int))) := by
  obtain ⟨q1, q2, q3, q4, q5, q6⟩ := E.Gr.put_ok h.ok har
  have hgcw : gc < w.heap.size := h.own.lt gc (by simp [Value.ownBlock])
  have hgc' : w'.heap[gc]? = w.heap[gc]? := hp.kp.block gc hgcw (fun hm => h.gc2 gc hm rfl)
  have hnew : ∀ i, MG gb u1' u2' u3' u4 km i → W.heap.size ≤ i := fun i hi => by
    rcases hp.new i hi with h1 | h1
    · exact h.ng.new i h1
    · have := h.ng.bel.size; omega
  have hgc2 : ∀ i, MG gb u1' u2' u3' u4 km i → i ≠ gc := fun i hi => by
    rcases hp.new i hi with h1 | h1
    · exact h.gc2 i h1
    · omega
  have htk : (cls.set k (s.put (E.opOf (cls.take k) x)).2.1).take (k + 1) = cls.take k ++ [(s.put (E.opOf (cls.take k) x)).2.1] := by
    have hl : k < cls.length := by rw [h.len]; exact hk
    rw [List.take_add_one, List.take_set_of_le (Nat.le_refl k), List.getElem?_set_self hl]; rfl
  have hown := (h.own.same (w' := w') fun i hi => by simp [Value.ownBlock] at hi; subst hi; exact hgc').set_ hk (.int .i64 ((s.put (E.opOf (cls.take k) x)).2.1 : Int))
  refine ⟨⟨hp.gr.frame fun i hi => Below.heap_setCell _ _ _ i (hgc2 i hi), ((h.ng.bel.trans (hp.kp.below h.ng.bel.size h.ng.new)).setCell (p := ⟨gc, 0 + k, none⟩) h.gc1 _), hnew⟩, ?_, h.gc1, hgc2, by simp [h.len], by rw [htk]; exact h.told, q1, ?_, ?_, ?_, q5.trans h.nm, ?_⟩
  · rw [show ivs (cls.set k (s.put (E.opOf (cls.take k) x)).2.1) = (ivs cls).set k (.int .i64 ((s.put (E.opOf (cls.take k) x)).2.1 : Int)) by simp [ivs, List.map_set]]
    exact hown
  · intro e he
    cases hg : AL.get s.es (E.can s.p (E.opOf (cls.take k) x)) with
    | some c => rw [E.Gr.put_some hg] at he; exact h.owf e he
    | none =>
      rw [E.Gr.put_none hg] at he
      rcases List.mem_append.1 he with he | he
      · exact h.owf e he
      · simp at he; subst he; exact owf_can hwf har (by omega)
  · have := h.lp; omega
  · have h1 : (s.put (E.opOf (cls.take k) x)).1.es.length ≤ s.es.length + 1 := by
      cases hg : AL.get s.es (E.can s.p (E.opOf (cls.take k) x)) with
      | some c => rw [E.Gr.put_some hg]; exact Nat.le_succ _
      | none => rw [E.Gr.put_none hg]; simp
    have := h.le
    omega
  · rw [htk]
    intro c hc
    rcases List.mem_append.1 hc with hc | hc
    · have := h.lo c hc; omega
    · simp at hc; subst hc; exact q2
end
end Go.Proofs.YtcmlmjbpdaecbaaGreat
