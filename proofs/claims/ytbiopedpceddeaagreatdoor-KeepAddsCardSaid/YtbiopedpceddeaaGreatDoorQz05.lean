/- Part. -/
import Derived.Test.YtbiopedpceddeaaGreatDoorQz04
import Derived.Lib.TrailingZeros
import Derived.Laws.Bits64b
import Derived.Deep.DeepCutAuto
set_option linter.unusedVariables false
set_option linter.unusedSimpArgs false
set_option maxRecDepth 100000
set_option maxHeartbeats 16000000
namespace Go.Proofs.YtbiopedpceddeaaGreatDoor
section
open Go.RowKit Go.MapKept Go.Maps Go.WideMaps
theorem nodup_len : ∀ (n : Nat) (l : List Int), l.Nodup → (∀ a ∈ l, 0 ≤ a ∧ a < (n : Int)) → l.length ≤ n := by
 intro n
 induction n with
 | zero =>
  intro l _ h
  cases l with
  | nil => simp
  | cons a l => have := h a (by simp); omega
 | succ n ih =>
  intro l hd h
  by_cases hm : (n : Int) ∈ l
  · have h1 := List.length_erase_of_mem hm
    have h2 := ih (l.erase (n : Int)) (hd.erase _) (fun a ha => by
     have ha' := List.mem_of_mem_erase ha
     have := h a ha'
     have hne : a ≠ (n : Int) := fun e => by
      rw [List.Nodup.mem_erase_iff hd] at ha
      exact ha.1 e
     omega)
    omega
  · have := ih l hd (fun a ha => by
     have := h a ha
     have hne : a ≠ (n : Int) := fun e => hm (e ▸ ha)
     omega)
    omega
theorem MapAt.nodup {κ α : Type} {P : Program} {kt : TypeId} {ek : κ → Value} {R : World → κ → Value → α → Prop} {w : World} {b : Nat} {l : List (κ × α)} (h : MapAt P kt ek R w b l) : (l.map Prod.fst).Nodup := by
 obtain ⟨es, clock, _, hs, hl, h4⟩ := h
 exact mapAt_nodup hs hl h4
def IntI (_ : World) (_ : Int) (u : Value) (n : Int) : Prop := u = .int .i64 n
def ekI (n : Int) : Value := .int .i64 n
theorem ekI_inj : ∀ a b, ekI a = ekI b → a = b := fun a b h => by simpa [ekI] using h
theorem keyOf_i64 {k : Int} (h : I64 k) : keyOf Tryz.prog 3 (ekI k) = some (.int .i64 k) := keyOf_int_mk Tryz.underlying3 (lit_i64 h)
def SeenOk (mk : T.Nd → List T.Nd → List T.Nd × Int) (t : List T.Nd) (out : List T.Nd) (l : List (Int × Int)) : Prop :=
 ∀ k n, AL.get l k = some n → ∀ f, T.Rep t [k] f → ∀ u, out <+: u → u.Nodup → T.Ord u → T.cnnG mk f u = (u, [n])
def MkPost (g B bb : Nat) (mk : T.Nd → List T.Nd → List T.Nd × Int) (out : List T.Nd) (M : Nat → Prop) (x : T.Nd) (A : Option Addr) (W : World) (e : Ending) (W' : World) : Prop :=
 e = .returned (.int .i64 (mk x out).2) ∧ (mk x out).1.length ≤ out.length + g ∧ ∃ M', BuAt W' B bb (mk x out).1 M' ∧ Kpm M W W' ∧ (∀ i, M i → M' i) ∧ ∀ i, M' i → M i ∨ W.heap.size ≤ i ∨ InA A x.args i
structure MadeOk (ks : List (Nat × Obj)) (f : FuncId) (bs caps : Array Value) (mk : T.Nd → List T.Nd → List T.Nd × Int) (D : T.Nd → Prop) (g : Nat) (W0 : World) (bb : Nat) (lim : Nat) : Prop where
 enters : ∀ args W', (callFunc f args).run Tryz.prog W' = .ok (.enter f args) W'
 made : ∀ (X : World) (out : List T.Nd) (M : Nat → Prop) (x : T.Nd) (A : Option Addr) (c : Nat), Below W0.heap.size W0 X → BuAt X W0.heap.size bb out M → ArgAt W0.heap.size M X A x.args → NWf x → D x → out.Nodup → T.Ord out →
  (∀ a ∈ x.args, 0 ≤ a ∧ a < (out.length : Int)) → out.length ≤ lim → (∀ p ∈ ks, ¬ M p.1 ∧ X.heap[p.1]? = some p.2) → Calls Tryz.prog f (bs.push (ndV x A c) ++ caps) X (MkPost g W0.heap.size bb mk out M x A X)
structure FromSt (ks : List (Nat × Obj)) (mk : T.Nd → List T.Nd → List T.Nd × Int) (t : List T.Nd) (g base : Nat) (W0 : World) (bb sb : Nat) (X : World) (out : List T.Nd) (M : Nat → Prop) (l : List (Int × Int)) : Prop where
 bel : Below W0.heap.size W0 X
 bu : BuAt X W0.heap.size bb out M
 sb1 : ¬ M sb
 sb2 : W0.heap.size ≤ sb
 map_ : MapAt Tryz.prog 3 ekI IntI X sb l
 seen : SeenOk mk t out l
 keys : ∀ p ∈ l, 0 ≤ p.1 ∧ p.1 < (t.length : Int)
 nd : out.Nodup
 ord : T.Ord out
 len : out.length ≤ base + g * l.length
 kept : ∀ p ∈ ks, ¬ M p.1 ∧ p.1 ≠ sb ∧ X.heap[p.1]? = some p.2
theorem FromSt.small {ks : List (Nat × Obj)} {mk : T.Nd → List T.Nd → List T.Nd × Int} {t : List T.Nd} {g base : Nat} {W0 : World} {bb sb : Nat} {X : World} {out : List T.Nd} {M : Nat → Prop} {l : List (Int × Int)} (h : FromSt ks mk t g base W0 bb sb X out M l) : out.length ≤ base + g * t.length := by
 have h1 := nodup_len t.length (l.map Prod.fst) h.map_.nodup (fun a ha => by
  obtain ⟨p, hp, rfl⟩ := List.mem_map.1 ha
  exact h.keys p hp)
 rw [List.length_map] at h1
 have h2 := Nat.mul_le_mul_left g h1
 have := h.len
 omega
theorem FromSt.kept_lt {ks : List (Nat × Obj)} {mk : T.Nd → List T.Nd → List T.Nd × Int} {t : List T.Nd} {g base : Nat} {W0 : World} {bb sb : Nat} {X : World} {out : List T.Nd} {M : Nat → Prop} {l : List (Int × Int)} (h : FromSt ks mk t g base W0 bb sb X out M l) {p : Nat × Obj} (hp : p ∈ ks) : p.1 < X.heap.size := (gA (h.kept p hp).2.2).1
def FromPost (ks : List (Nat × Obj)) (mk : T.Nd → List T.Nd → List T.Nd × Int) (t : List T.Nd) (g base : Nat) (W0 : World) (bb sb : Nat) (fr : T.F) (k : Int) (out : List T.Nd) (M : Nat → Prop) (l : List (Int × Int)) (X : World) (e : Ending) (X' : World) : Prop :=
 ∃ r M' l', e = .returned (.int .i64 r) ∧ (T.cnnG mk fr out).2 = [r] ∧ FromSt ks mk t g base W0 bb sb X' (T.cnnG mk fr out).1 M' l' ∧ Kpm (fun i => M i ∨ i = sb) X X' ∧ (∀ i, M i → M' i) ∧ (∀ i, M' i → M i ∨ X.heap.size ≤ i) ∧ ∀ q, k < q → AL.get l' q = AL.get l q
structure TWf (t : List T.Nd) : Prop where
 ord : T.Ord t
 op : ∀ x ∈ t, I64 x.op ∧ I64 x.w ∧ I64 x.fl
 len : ∀ x ∈ t, x.args.length ≤ 3
theorem infoI : (Tryz.prog.info? 3).map (fun i => (i.zero, i.size, i.bytes)) = some (some (.int .i64 0), 1, 8) := by kernel_rfl
structure FromI (ks : List (Nat × Obj)) (mk : T.Nd → List T.Nd → List T.Nd × Int) (t : List T.Nd) (g base : Nat) (W0 : World) (bb sb : Nat) (k : Nat) (x : T.Nd) (A : Option Addr) (c : Nat) (out : List T.Nd) (M : Nat → Prop) (l : List (Int × Int)) (X : World) (j : Nat) (v : Value) (wr : World) (outj : List T.Nd) (Mj : Nat → Prop) (lj : List (Int × Int)) (ns : List Int) : Prop where
 st : FromSt ks mk t g base W0 bb sb wr outj Mj lj
 told : ∃ kj, T.Rep t (x.args.take j) kj ∧ T.cnnG mk kj out = (outj, ns)
 kp : Kpm (fun i => M i ∨ i = sb) X wr
 m1 : ∀ i, M i → Mj i
 m2 : ∀ i, Mj i → M i ∨ X.heap.size + 1 ≤ i
 row : wr.heap[X.heap.size]? = some (.cells #[.int .i64 x.op, .int .i64 x.w, .int .i64 x.fl, .slice A x.args.length c, .int .u32 x.imm] 62 (0, 0))
 own : OwnAt wr 3 1 v j (ns.map (Value.int .i64))
 blk : ∀ ga, v.ownBlock = some ga → ¬ Mj ga ∧ ga ≠ sb ∧ X.heap.size + 1 ≤ ga
 get : ∀ q, (k : Int) ≤ q → AL.get lj q = AL.get l q
theorem FromSt.alloc {ks : List (Nat × Obj)} {mk : T.Nd → List T.Nd → List T.Nd × Int} {t : List T.Nd} {g base : Nat} {W0 : World} {bb sb : Nat} {X X' : World} {out : List T.Nd} {M : Nat → Prop} {l : List (Int × Int)} (h : FromSt ks mk t g base W0 bb sb X out M l) (hk : Below X.heap.size X X') : FromSt ks mk t g base W0 bb sb X' out M l :=
 ⟨h.bel.trans (hk.mono h.bel.size), h.bu.below hk, h.sb1, h.sb2, h.map_.keep (hk.block _ h.map_.lt) (fun _ _ _ h => h), h.seen, h.keys, h.nd, h.ord, h.len, fun p hp => ⟨(h.kept p hp).1, (h.kept p hp).2.1, (hk.block _ (h.kept_lt hp)).trans (h.kept p hp).2.2⟩⟩
theorem FromI.start {ks : List (Nat × Obj)} {mk : T.Nd → List T.Nd → List T.Nd × Int} {t : List T.Nd} {g base : Nat} {W0 : World} {bb sb k : Nat} {x : T.Nd} {A : Option Addr} {c : Nat} {X X1 : World} {out : List T.Nd} {M : Nat → Prop} {l : List (Int × Int)} (h : FromSt ks mk t g base W0 bb sb X out M l)
 (hX : X1 = X.alloc (.cells #[.int .i64 x.op, .int .i64 x.w, .int .i64 x.fl, .slice A x.args.length c, .int .u32 x.imm] 62)) : FromI ks mk t g base W0 bb sb k x A c out M l X 0 (.slice none 0 0) X1 out M l [] := by
 have hb : Below X.heap.size X X1 := by rw [hX]; exact al0
 refine ⟨h.alloc hb, ⟨.nil, by rw [List.take_zero]; exact .nil, rfl⟩, Kpm.of_below hb _, fun i h => h, fun i h => .inl h, by rw [hX]; exact heap_alloc_new X _, OwnAt.nil_ _ _ _, fun ga h => by simp [Value.ownBlock] at h, fun q _ => rfl⟩
theorem FromSt.same {ks : List (Nat × Obj)} {mk : T.Nd → List T.Nd → List T.Nd × Int} {t : List T.Nd} {g base : Nat} {W0 : World} {bb sb : Nat} {X X' : World} {out : List T.Nd} {M : Nat → Prop} {l : List (Int × Int)} (h : FromSt ks mk t g base W0 bb sb X out M l) (hb : Below W0.heap.size W0 X') (hs : ∀ i, M i ∨ i = sb → X'.heap[i]? = X.heap[i]?) (hz : X.heap.size ≤ X'.heap.size) (hks : ∀ p ∈ ks, X'.heap[p.1]? = X.heap[p.1]?) : FromSt ks mk t g base W0 bb sb X' out M l :=
 ⟨hb, h.bu.same (fun i hi => hs i (.inl hi)) hz, h.sb1, h.sb2, h.map_.keep (hs sb (.inr rfl)) (fun _ _ _ h => h), h.seen, h.keys, h.nd, h.ord, h.len, fun p hp => ⟨(h.kept p hp).1, (h.kept p hp).2.1, (hks p hp).trans (h.kept p hp).2.2⟩⟩
theorem FromI.step {ks : List (Nat × Obj)} {mk : T.Nd → List T.Nd → List T.Nd × Int} {t : List T.Nd} {g base : Nat} {W0 : World} {bb sb k : Nat} {x : T.Nd} {A : Option Addr} {c : Nat} {out : List T.Nd} {M : Nat → Prop} {l : List (Int × Int)} {X : World} {j : Nat} {v : Value} {wr : World} {outj : List T.Nd} {Mj : Nat → Prop} {lj : List (Int × Int)} {ns : List Int}
 {p : Nat} {fa : T.F} {r : Int} {w2 w3 : World} {M2 : Nat → Prop} {l2 : List (Int × Int)} {v' : Value}
 (hI : FromI ks mk t g base W0 bb sb k x A c out M l X j v wr outj Mj lj ns) (ha : x.args[j]? = some (p : Int)) (hpk : p < k) (hfa : T.Rep t [(p : Int)] fa)
 (hd : (T.cnnG mk fa outj).2 = [r] ∧ FromSt ks mk t g base W0 bb sb w2 (T.cnnG mk fa outj).1 M2 l2 ∧ Kpm (fun i => Mj i ∨ i = sb) wr w2 ∧ (∀ i, Mj i → M2 i) ∧ (∀ i, M2 i → Mj i ∨ wr.heap.size ≤ i) ∧ ∀ q, (p : Int) < q → AL.get l2 q = AL.get lj q)
 (h0 : FromSt ks mk t g base W0 bb sb X out M l)
 (hown' : OwnAt w3 3 1 v' (j + 1) (ns.map (Value.int .i64) ++ [.int .i64 r])) (hgr : (w2.alloc (.cells #[.int .i64 r] 3)).grownBy w3 v.ownBlock) (hat : v'.ownBlock = v.ownBlock ∨ v'.ownBlock = some (w2.heap.size + 1)) :
 FromI ks mk t g base W0 bb sb k x A c out M l X (j + 1) v' w3 (T.cnnG mk fa outj).1 M2 l2 (ns ++ [r]) := by
 obtain ⟨hr, hst2, hkp2, hm12, hm22, hq2⟩ := hd
 have hXM : ∀ i, M i → i < X.heap.size := fun i hi => (h0.bu.in_ i hi).2
 have hXs : sb < X.heap.size := h0.map_.lt
 have hWX : W0.heap.size ≤ X.heap.size := h0.bel.size
 have hxw : X.heap.size < wr.heap.size := (gA hI.row).1
 have hww : wr.heap.size ≤ w2.heap.size := hkp2.size
 have hga : ∀ ga, v.ownBlock = some ga → ¬ M2 ga ∧ ga ≠ sb ∧ X.heap.size + 1 ≤ ga ∧ ga < wr.heap.size := fun ga hg => by
  obtain ⟨b1, b2, b3⟩ := hI.blk ga hg
  have hl := hI.own.lt ga hg
  refine ⟨fun h => ?_, b2, b3, hl⟩
  rcases hm22 ga h with h | h
  · exact b1 h
  · omega
 have hs23 : ∀ i, i < w2.heap.size → (∀ ga, v.ownBlock = some ga → i ≠ ga) → w3.heap[i]? = w2.heap[i]? := fun i hi hn =>
  (hgr.block i (by simp; omega) (fun e => hn i e.symm rfl)).trans (Below.heap_alloc w2 _ i hi)
 have hsz : w2.heap.size ≤ w3.heap.size := by have := hgr.size; simp at this; omega
 refine ⟨?_, ?_, ?_, fun i hi => hm12 i (hI.m1 i hi), ?_, ?_, ?_, ?_, ?_⟩
 · refine hst2.same ?_ (fun i hi => hs23 i ?_ ?_) hsz (fun p hp => hs23 p.1 (hst2.kept_lt hp) (fun ga hg e => by have := hga ga hg; have := h0.kept_lt hp; omega))
   · have hb1 : Below W0.heap.size W0 (w2.alloc (.cells #[.int .i64 r] 3)) := hst2.bel.alloc hst2.bel.size _
     exact hb1.grown hgr hb1.size (fun ga hg => by have := hga ga hg; omega)
   · rcases hi with hi | rfl
     · exact (hst2.bu.in_ i hi).2
     · omega
   · intro ga hg e
     subst e
     have := hga i hg
     rcases hi with hi | hi
     · exact this.1 hi
     · exact this.2.1 hi
 · obtain ⟨kj, t1, t2⟩ := hI.told
   refine ⟨kj.app fa, ?_, ?_⟩
   · rw [List.take_add_one, ha]
     exact t1.app hfa
   · rw [T.cnnG_app, t2]
     dsimp only
     rw [hr]
 · refine ⟨hgr.os.trans (hkp2.os.trans hI.kp.os), hgr.tape.trans (hkp2.tape.trans hI.kp.tape), hgr.output.trans (hkp2.output.trans hI.kp.output), by omega, fun i hi hn => ?_⟩
   rw [hs23 i (by omega) (fun ga hg e => by have := hga ga hg; omega), hkp2.block i (by omega) (fun h => ?_), hI.kp.block i hi hn]
   rcases h with h | h
   · rcases hI.m2 i h with h | h
     · exact hn (.inl h)
     · omega
   · exact hn (.inr h)
 · intro i hi
   rcases hm22 i hi with h | h
   · exact hI.m2 i h
   · exact .inr (by omega)
 · rw [hs23 _ (by omega) (fun ga hg e => by have := hga ga hg; omega), hkp2.block _ hxw (fun h => ?_)]
   · exact hI.row
   · rcases h with h | h
     · rcases hI.m2 _ h with h | h
       · have := hXM _ h; omega
       · omega
     · omega
 · rw [List.map_append]
   exact hown'
 · intro ga hg
   rcases hat with e | e
   · rw [e] at hg
     have := hga ga hg
     exact ⟨this.1, this.2.1, this.2.2.1⟩
   · rw [e] at hg
     injection hg with hg
     refine ⟨fun h => ?_, by omega, by omega⟩
     have := (hst2.bu.in_ ga h).2
     omega
 · intro q hq
   rw [hq2 q (by omega), hI.get q hq]
theorem FromI.prep {ks : List (Nat × Obj)} {mk : T.Nd → List T.Nd → List T.Nd × Int} {t : List T.Nd} {g base : Nat} {W0 : World} {bb sb k : Nat} {x : T.Nd} {A : Option Addr} {c : Nat} {out : List T.Nd} {M : Nat → Prop} {l : List (Int × Int)} {X : World} {Av : Option Addr} {cv : Nat} {wr : World} {outj : List T.Nd} {Mj : Nat → Prop} {lj : List (Int × Int)} {ns : List Int} {X5 : World}
 (hI : FromI ks mk t g base W0 bb sb k x A c out M l X x.args.length (.slice Av x.args.length cv) wr outj Mj lj ns) (h0 : FromSt ks mk t g base W0 bb sb X out M l) (hw : TWf t) (hx : t[k]? = some x) (hi : 0 ≤ x.imm ∧ x.imm < 4294967296) (ok : T.MkOk mk) (hl : base + g * t.length ≤ 900000)
 (hX5 : X5 = wr.setCell ⟨X.heap.size, 3, none⟩ (.slice Av x.args.length cv)) :
 ns.length = x.args.length ∧ FromSt ks mk t g base W0 bb sb X5 outj Mj lj ∧ ArgAt W0.heap.size Mj X5 Av ns ∧ NWf ⟨x.op, x.w, x.fl, ns, x.imm⟩ ∧
 X5.heap[X.heap.size]? = some (.cells #[.int .i64 x.op, .int .i64 x.w, .int .i64 x.fl, .slice Av x.args.length cv, .int .u32 x.imm] 62 (0, 0)) ∧ ∀ a ∈ ns, 0 ≤ a ∧ a < (outj.length : Int) := by
 have hns : ns.length = x.args.length := by have := hI.own.1; simpa using this
 have hXM : ∀ i, M i → i < X.heap.size := fun i hi => (h0.bu.in_ i hi).2
 have hXs : sb < X.heap.size := h0.map_.lt
 have hWX : W0.heap.size ≤ X.heap.size := h0.bel.size
 have hxw : X.heap.size < wr.heap.size := (gA hI.row).1
 have hsz5 : wr.heap.size ≤ X5.heap.size := by rw [hX5]; simp
 have hs5 : ∀ i, i ≠ X.heap.size → X5.heap[i]? = wr.heap[i]? := fun i hn => by rw [hX5]; exact heap_setCell_other _ _ _ _ hn
 have hnM : ¬ Mj X.heap.size := fun h => by
  rcases hI.m2 _ h with h | h
  · have := hXM _ h; omega
  · omega
 have hst5 : FromSt ks mk t g base W0 bb sb X5 outj Mj lj := by
  refine hI.st.same ?_ (fun i hi => hs5 i ?_) hsz5 (fun p hp => hs5 p.1 (by have := h0.kept_lt hp; omega))
  · rw [hX5]; exact hI.st.bel.setCell (p := ⟨X.heap.size, 3, none⟩) hWX _
  · rintro rfl
    rcases hi with hi | hi
    · exact hnM hi
    · omega
 obtain ⟨kj, t1, t2⟩ := hI.told
 have hT := T.cnnG_told ok kj h0.nd h0.ord
 rw [t2] at hT
 have hlo : ∀ a ∈ ns, 0 ≤ a ∧ a < (outj.length : Int) := hT.lo
 have hown5 : OwnAt X5 3 1 (.slice Av x.args.length cv) x.args.length (ns.map (Value.int .i64)) := hI.own.same fun ga hg => hs5 ga (by have := hI.blk ga hg; omega)
 have hsmall := hst5.small
 refine ⟨hns, hst5, ⟨?_, fun hne b off e => ?_⟩, ⟨(hw.op x (List.mem_of_getElem? hx)).1, (hw.op x (List.mem_of_getElem? hx)).2.1, (hw.op x (List.mem_of_getElem? hx)).2.2, hi, by rw [hns]; exact hw.len x (List.mem_of_getElem? hx), fun a ha => ?_⟩, ?_, hlo⟩
 · rw [hns]
   exact hown5.slInts
 · subst e
   have hb := hI.blk b (by simp [Value.ownBlock])
   refine ⟨by omega, hb.1, ?_⟩
   rcases hown5.2 with ⟨e, _⟩ | ⟨g', off', cap, cur, e, hc, _⟩
   · cases e
   · cases e
     exact ⟨cur, _, hc⟩
 · have := hlo a ha
   omega
 · rw [hX5]
   exact heap_setCell_same _ _ 3 _ _ _ hI.row
theorem FromI.fin {ks : List (Nat × Obj)} {mk : T.Nd → List T.Nd → List T.Nd × Int} {t : List T.Nd} {g base : Nat} {W0 : World} {bb sb k : Nat} {x : T.Nd} {A : Option Addr} {c : Nat} {out : List T.Nd} {M : Nat → Prop} {l : List (Int × Int)} {X : World} {Av : Option Addr} {cv : Nat} {wr : World} {outj : List T.Nd} {Mj : Nat → Prop} {lj : List (Int × Int)} {ns : List Int} {X5 w6 : World} {fr : T.F} {e : Ending}
 (hI : FromI ks mk t g base W0 bb sb k x A c out M l X x.args.length (.slice Av x.args.length cv) wr outj Mj lj ns) (h0 : FromSt ks mk t g base W0 bb sb X out M l) (hx : t[k]? = some x) (hfr : T.Rep t [(k : Int)] fr) (ok : T.MkOk mk) (hg0 : AL.get l (k : Int) = none)
 (hst5 : FromSt ks mk t g base W0 bb sb X5 outj Mj lj) (hk62 : t.length ≤ 1000000) (hsz5 : wr.heap.size ≤ X5.heap.size) (hs5 : ∀ i, i ≠ X.heap.size → X5.heap[i]? = wr.heap[i]?)
 (hp : MkPost g W0.heap.size bb mk outj Mj ⟨x.op, x.w, x.fl, ns, x.imm⟩ Av X5 e w6) :
 e = .returned (.int .i64 (mk ⟨x.op, x.w, x.fl, ns, x.imm⟩ outj).2) ∧ ∃ w7, (Instr.mapUpdate 150 (.map (some sb)) (.int .i64 (k : Int)) (.int .i64 (mk ⟨x.op, x.w, x.fl, ns, x.imm⟩ outj).2)).run Tryz.prog w6 = .ok () w7 ∧
  FromPost ks mk t g base W0 bb sb fr k out M l X (.returned (.int .i64 (mk ⟨x.op, x.w, x.fl, ns, x.imm⟩ outj).2)) w7 := by
 obtain ⟨rfl, hlen6, M6, hbu6, hkp6, hm16, hm26⟩ := hp
 refine ⟨rfl, ?_⟩
 have hkt : k < t.length := (List.getElem?_eq_some_iff.1 hx).1
 have hXM : ∀ i, M i → i < X.heap.size := fun i hi => (h0.bu.in_ i hi).2
 have hXs : sb < X.heap.size := h0.map_.lt
 have hWX : W0.heap.size ≤ X.heap.size := h0.bel.size
 have hxw : X.heap.size < wr.heap.size := (gA hI.row).1
 have hsz6 := hkp6.size
 obtain ⟨kj, t1, t2⟩ := hI.told
 rw [List.take_length] at t1
 have hT := T.cnnG_told ok kj h0.nd h0.ord
 rw [t2] at hT
 obtain ⟨q1, q2, q3, q4, q5⟩ := ok.told (x := ⟨x.op, x.w, x.fl, ns, x.imm⟩) hst5.nd hst5.ord hT.lo
 have hfe : fr = .cons x.op x.w x.fl x.imm kj .nil := hfr.det (T.Rep.cons (by omega) (by rw [Int.toNat_natCast]; exact hx) t1 .nil)
 have hcnn : T.cnnG mk fr out = ((mk ⟨x.op, x.w, x.fl, ns, x.imm⟩ outj).1, [(mk ⟨x.op, x.w, x.fl, ns, x.imm⟩ outj).2]) := by
  rw [hfe]
  simp only [T.cnnG, t2]
 generalize hmk : mk ⟨x.op, x.w, x.fl, ns, x.imm⟩ outj = r at *
 have hg0' : AL.get lj (k : Int) = none := by rw [hI.get _ (Int.le_refl _)]; exact hg0
 have hsb6 : ¬ M6 sb := fun h => by
  rcases hm26 sb h with h | h | ⟨hne, off, e⟩
  · exact hst5.sb1 h
  · omega
  · subst e
    exact (hI.blk sb (by simp [Value.ownBlock])).2.1 rfl
 have hb6 : Below W0.heap.size W0 w6 := hst5.bel.trans (hkp6.below hst5.bel.size (fun i hi => (hst5.bu.in_ i hi).1))
 have hmap6 : MapAt Tryz.prog 3 ekI IntI w6 sb lj := hst5.map_.keep (hkp6.block sb hst5.map_.lt hst5.sb1) (fun _ _ _ h => h)
 obtain ⟨w7, hupd, hgr, hsz7, hM7⟩ := hmap6.update intKeyed ekI_inj Tryz.underlying150 (keyOf_i64 (k := (k : Int)) ⟨by omega, by omega⟩) (.int .i64 r.2)
 refine ⟨w7, hupd, r.2, M6, AL.put lj (k : Int) r.2, rfl, by rw [hcnn], ?_, ?_, fun i hi => hm16 i (hI.m1 i hi), ?_, ?_⟩
 · rw [hcnn]
   dsimp only
   have hlp := AL.length_put lj (k : Int) r.2
   rw [if_pos hg0'] at hlp
   refine ⟨hb6.grown hgr hb6.size (fun i hi => by cases hi; exact h0.sb2), ?_, hsb6, h0.sb2, hM7 IntI r.2 (fun _ _ _ _ h => h) rfl, ?_, ?_, q2, q3, ?_, ?_⟩
   · refine hbu6.same (fun i hi => hgr.block i (hbu6.in_ i hi).2 (fun e => ?_)) hgr.size
     injection e with e
     subst e
     exact hsb6 hi
   · intro q n hq f' hf' u hu hnu hou
     by_cases e : q = (k : Int)
     · subst e
       rw [AL.get_put_same] at hq
       cases hq
       have : f' = fr := hf'.det hfr
       subst this
       have := T.cnnG_again ok f' h0.nd h0.ord (u := u) (by rw [hcnn]; exact hu) hnu hou
       rw [this, hcnn]
     · rw [AL.get_put_other _ _ e] at hq
       exact hst5.seen q n hq f' hf' u (q1.trans hu) hnu hou
   · intro p hp
     rcases AL.mem_put hp with hp | rfl
     · exact hst5.keys p hp
     · exact ⟨by omega, by show (k : Int) < _; omega⟩
   · rw [hlp, Nat.mul_add, Nat.mul_one]
     have := hst5.len
     omega
   · intro p hp
     have p1 := hst5.kept p hp
     have p2 := hst5.kept_lt hp
     have p3 := h0.kept_lt hp
     refine ⟨fun h => ?_, p1.2.1, ?_⟩
     · rcases hm26 p.1 h with h | h | ⟨hne, off, e⟩
       · exact p1.1 h
       · omega
       · subst e
         have := hI.blk p.1 (by simp [Value.ownBlock])
         omega
     · rw [hgr.block p.1 (by omega) (fun e => by injection e with e; exact p1.2.1 e), hkp6.block p.1 p2 p1.1]
       exact p1.2.2
 · refine ⟨hgr.os.trans (hb6.os.trans h0.bel.os.symm), hgr.tape.trans (hb6.tape.trans h0.bel.tape.symm), hgr.output.trans (hb6.output.trans h0.bel.output.symm), by omega, fun i hi hn => ?_⟩
   have hnM : ¬ Mj i := fun h => by
    rcases hI.m2 i h with h | h
    · exact hn (.inl h)
    · omega
   rw [hgr.block i (by omega) (fun e => by injection e with e; exact hn (.inr e)), hkp6.block i (by omega) hnM, hs5 i (by omega), hI.kp.block i hi hn]
 · intro i hi
   rcases hm26 i hi with h | h | ⟨hne, off, e⟩
   · rcases hI.m2 i h with h | h
     · exact .inl h
     · exact .inr (by omega)
   · exact .inr (by omega)
   · subst e
     have := hI.blk i (by simp [Value.ownBlock])
     exact .inr (by omega)
 · intro q hq
   rw [AL.get_put_other _ _ (by omega), hI.get q (by omega)]
theorem gfrom_any {f : FuncId} {bs caps : Array Value} {ks : List (Nat × Obj)} {mk : T.Nd → List T.Nd → List T.Nd × Int} {D : T.Nd → Prop} {g base lim bb : Nat} {W0 : World} {t : List T.Nd} {n ct : Nat} {At : Option Addr} (hT : StAt 5 NdR W0 At n t) (hw : TWf t) (hD : ∀ x ∈ t, ∀ la, D ⟨x.op, x.w, x.fl, la, x.imm⟩)
 (hm : MadeOk ks f bs caps mk D g W0 bb lim) (ok : T.MkOk mk) (hlim : base + g * n ≤ lim) (hl2 : lim ≤ 900000) (hn : n ≤ 1000000) :
 ∀ (k : Nat), k < n → ∀ (X : World) (sb : Nat) (out : List T.Nd) (M : Nat → Prop) (l : List (Int × Int)), FromSt ks mk t g base W0 bb sb X out M l → ∀ (fr : T.F), T.Rep t [(k : Int)] fr →
  Calls Tryz.prog 92 #[.pointer (some ⟨bb, 0, none⟩), .slice At n ct, .int .i64 (k : Int), .map (some sb), .func (.func f) bs caps] X (FromPost ks mk t g base W0 bb sb fr k out M l X) := by
 intro k
 induction k using Nat.strongRecOn with
 | ind k ih =>
  intro hk X sb out M l h fr hfr
  have hlT := hT.len
  have hz : ∀ w, (zeroValue 3).run Tryz.prog w = .ok (.int .i64 0) w := fun w => by go_simp
  obtain ⟨u, _, hlook, hlv⟩ := h.map_.lookup (k := (k : Int)) intKeyed ekI_inj Tryz.underlying150 (hz X) (keyOf_i64 ⟨by omega, by omega⟩)
  unfold ekI at hlook
  have Hih := kH ih
  have HT := kH hT
  have Hw := kH hw
  have HD := kH hD
  have Hm := kH hm
  have Hok := kH ok
  have Hlim := kH hlim
  have HlT := kH hlT
  have H := kH h
  have Hfr := kH hfr
  have hen := hm.enters
  clear ih hT hw hD hm ok hlim hlT h hfr hz
  rcases hlv with ⟨hg0, rfl⟩ | ⟨r, hg1, hr⟩
  · rw [hg0] at hlook
    have hlook : (Instr.lookup 150 (.map (some sb)) (.int .i64 (k : Int)) true).run Tryz.prog X = .ok (.tuple #[.int .i64 0, .bool false]) X := hlook
    have Hg0 := kH hg0
    clear hg0
    obtain ⟨x, b, off, A, c, hx, rfl, hb, h0, h1, h2, h3, h4, hs, i0, i1⟩ := nd_cells HT.out hk
    have hbel := H.out.bel
    have k0 := (hbel.cell (p := ⟨b, off + k * 5, none⟩) hb).trans h0
    have k1 := (hbel.cell (p := ⟨b, off + k * 5 + 1, none⟩) hb).trans h1
    have k2 := (hbel.cell (p := ⟨b, off + k * 5 + 2, none⟩) hb).trans h2
    have k3 := (hbel.cell (p := ⟨b, off + k * 5 + 3, none⟩) hb).trans h3
    have k4 := (hbel.cell (p := ⟨b, off + k * 5 + 4, none⟩) hb).trans h4
    have Hx := kH hx
    have Hs := kH hs
    have Hi := kH (show 0 ≤ x.imm ∧ x.imm < 4294967296 from ⟨i0, i1⟩)
    have Hlen := kH (Hw.out.len x (List.mem_of_getElem? hx))
    clear hx hb h0 h1 h2 h3 h4 hs i0 i1 hbel
    go_enter Tryz.func92, Tryz.ntmps92
    go_wp2
    obtain ⟨X1, hX1⟩ : ∃ X1, X1 = X.alloc (.cells #[.int .i64 x.op, .int .i64 x.w, .int .i64 x.fl, .slice A x.args.length c, .int .u32 x.imm] 62) := ⟨_, rfl⟩
    rw [← hX1]
    have hst := FromI.start H.out hX1 (k := k)
    have HST := kH hst
    clear hX1 hst k0 k1 k2 k3 k4 hlook
    have hal := Hs.out.le
    go_loopg [33, 14] (x.args.length + 1) (fun gg i v wr => ∃ (j : Nat) (outj : List T.Nd) (Mj : Nat → Prop) (lj : List (Int × Int)) (ns : List Int), j ≤ x.args.length ∧ i = .int .i64 (j : Int) ∧ gg + j = x.args.length + 1 ∧ Hid (FromI ks mk t g base W0 bb sb k x A c out M l X j v wr outj Mj lj ns))
    case atStart => exact ⟨0, out, M, l, [], Nat.zero_le _, rfl, rfl, HST⟩
    case round =>
     obtain ⟨j, outj, Mj, lj, ns, hj, rfl, hgk, HI⟩ := hrel
     have Hgk := kH hgk; clear hgk HST
     by_cases hjl : j < x.args.length
     · obtain ⟨a, ba, offa, ua, ha, rfl, hba, hc, rfl⟩ := Hs.out.at_ hjl
       have kc := (HI.out.st.bel.cell (p := ⟨ba, offa + j, none⟩) hba).trans hc
       have hab := Hw.out.ord k x Hx.out a (List.mem_of_getElem? ha)
       obtain ⟨p, rfl⟩ : ∃ p : Nat, a = p := ⟨a.toNat, by omega⟩
       have hpk : p < k := by omega
       obtain ⟨fa, hfa⟩ := T.Rep.one Hw.out.ord (show p < t.length by rw [HlT.out]; omega)
       have Hcall := kH (Hih.out p hpk (by omega) _ sb outj Mj lj HI.out.st fa hfa)
       have Ha := kH ha
       have Hfa := kH hfa
       clear ha hba hc hfa
       go_wp2_with fail
       (with_reducible refine Hcall.out.mono ?_)
       rintro e w2 ⟨r, M2, l2, rfl, hr, hst2, hkp2, hm12, hm22, hq2⟩
       have hj3 : j ≤ 3 := by have := Hlen.out; omega
       obtain ⟨Av, cv, rfl⟩ := HI.out.own.form
       have Hown2 := kH (HI.out.own.same fun ga hga => (hkp2.block ga (HI.out.own.lt ga hga) (by
        have := HI.out.blk ga hga
        rintro (h | h)
        · exact this.1 h
        · exact this.2.1 h)))
       have Hd := kH (show (T.cnnG mk fa outj).2 = [r] ∧ FromSt ks mk t g base W0 bb sb w2 (T.cnnG mk fa outj).1 M2 l2 ∧ Kpm (fun i => Mj i ∨ i = sb) wr w2 ∧ (∀ i, Mj i → M2 i) ∧ (∀ i, M2 i → Mj i ∨ wr.heap.size ≤ i) ∧ ∀ q, (p : Int) < q → AL.get l2 q = AL.get lj q from ⟨hr, hst2, hkp2, hm12, hm22, hq2⟩)
       clear hr hst2 hkp2 hm12 hm22 hq2 kc
       go_wp2_with (at_builtin; refine wpList_append_one' rfl (.tmp 37) (.tmp 44) 60 rfl 3 (.int .i64 0) 8 Tryz.underlying60 infoI rfl _ j _ rfl Hown2.out (.int .i64 r) rfl 3 w2.heap.size rfl rfl (by omega) (by omega) ?_; intro v' w3 hown' hgr hat; have Hap := kH (FromI.step HI.out Ha.out hpk Hfa.out Hd.out H.out hown' hgr hat); clear hown' hgr hat)
       go_roundg (gk - 1)
       case measure => have := Hgk.out; omega
       case rel =>
        have := Hgk.out
        exact ⟨j + 1, _, _, _, _, by omega, by go_num, by omega, Hap⟩
     · obtain rfl : j = x.args.length := by omega
       obtain ⟨Av, cv, rfl⟩ := HI.out.own.form
       obtain ⟨X5, hX5⟩ : ∃ X5, X5 = wr.setCell ⟨X.heap.size, 3, none⟩ (.slice Av x.args.length cv) := ⟨_, rfl⟩
       obtain ⟨hns, hst5, harg, hnwf, hrow5, hlo⟩ := FromI.prep HI.out H.out Hw.out Hx.out Hi.out Hok.out (by rw [HlT.out]; exact Nat.le_trans Hlim.out hl2) hX5
       have hmade := Hm.out.made X5 outj Mj ⟨x.op, x.w, x.fl, ns, x.imm⟩ Av cv hst5.bel hst5.bu harg hnwf (HD.out x (List.mem_of_getElem? Hx.out) ns) hst5.nd hst5.ord hlo (by have := hst5.small; rw [HlT.out] at this; exact Nat.le_trans this Hlim.out) (fun p hp => ⟨(hst5.kept p hp).1, (hst5.kept p hp).2.2⟩)
       unfold ndV at hmade
       dsimp only at hmade
       rw [hns] at hmade
       have Hmade := kH hmade
       have Hst5 := kH hst5
       obtain ⟨m0, m1, m2, m3, m4⟩ := nd5_cells hrow5
       have n3 : wr.cell? ⟨X.heap.size, 3, none⟩ = some (.slice A x.args.length c) := by rw [cell_of_row _ _ _ _ _ (0, 0) HI.out.row]; rfl
       have nf : wr.frozen? ⟨X.heap.size, 3, none⟩ = false := frozen_row HI.out.row _
       subst hX5
       clear hns hst5 harg hnwf hrow5 hlo hmade Hgk
       go_wp2_with fail
       (with_reducible refine Hmade.out.mono ?_)
       rintro e w6 hpost
       obtain ⟨rfl, w7, hupd, hfin⟩ := FromI.fin HI.out H.out Hx.out Hfr.out Hok.out Hg0.out Hst5.out (by rw [HlT.out]; omega) (by simp) (fun i hn => heap_setCell_other _ _ _ _ hn) hpost
       have Hfin := kH hfin
       clear hfin hpost m0 m1 m2 m3 m4 n3 nf
       go_wp2
       go_ret
       exact Hfin.out
  · rw [hg1] at hlook
    have hr' : u = .int .i64 r := hr
    subst hr'
    have hlook : (Instr.lookup 150 (.map (some sb)) (.int .i64 (k : Int)) true).run Tryz.prog X = .ok (.tuple #[.int .i64 r, .bool true]) X := hlook
    have Hg1 := kH hg1
    clear hg1 hr
    go_enter Tryz.func92, Tryz.ntmps92
    go_wp2
    go_ret
    have e := H.out.seen _ _ Hg1.out fr Hfr.out out List.prefix_rfl H.out.nd H.out.ord
    refine ⟨r, M, l, rfl, by rw [e], ?_, Kpm.refl _ _, fun i h => h, fun i h => .inl h, fun q _ => rfl⟩
    rw [e]
    exact H.out
end
section
open Go.RowKit Go.MapKept Go.Maps Go.WideMaps
theorem made_add (ks : List (Nat × Obj)) (W0 : World) (bb : Nat) : MadeOk ks 94 #[.pointer (some ⟨bb, 0, none⟩)] #[] T.mkA (fun _ => True) 1 W0 bb 900000 := by
 refine ⟨enters_of Tryz.func94 (by kernel_rfl) rfl, fun X out M x A c hb hbu harg hx _ hnd hord hlo hlen _ => ?_⟩
 refine (gadd_any W0.heap.size bb out M x A c X hbu hb.size harg hx hlen).mono ?_
 rintro e w' ⟨h1, h2⟩
 exact ⟨h1, T.addN_len, h2⟩
theorem from_start {mk : T.Nd → List T.Nd → List T.Nd × Int} {t : List T.Nd} {g : Nat} {W X : World} (hX : X = (W.alloc (.cells #[.slice none 0 0, .map none] 148)).alloc (.map #[] 0)) :
 FromSt [] mk t g 0 W W.heap.size (W.heap.size + 1) X [] (fun i => i = W.heap.size) [] := by
 have hr : X.heap[W.heap.size]? = some (.cells #[.slice none 0 0, .map none] 148 (0, 0)) := by rw [hX]; exact row_alloc (heap_alloc_new W _) _
 have hs : X.heap.size = W.heap.size + 2 := by rw [hX]; simp
 have hm : MapAt Tryz.prog 3 ekI IntI X (W.heap.size + 1) [] := by
  have := MapAt.made (P := Tryz.prog) (kt := 3) (ek := ekI) (R := IntI) (W.alloc (.cells #[.slice none 0 0, .map none] 148))
  rw [← hX] at this
  simpa using this
 refine ⟨by rw [hX]; exact (al0).alloc (by simp) _, ⟨fun i hi => by subst hi; omega, rfl, fun x hx => by simp at hx, _, _, hr, OwnM.nil_ _ _, .inl ⟨rfl, rfl⟩⟩, by omega, by omega, hm, fun k n h => by simp [AL.get] at h, fun p hp => by simp at hp, List.nodup_nil, T.ord_nil, by simp, fun p hp => by simp at hp⟩
theorem gpart_any {t : List T.Nd} {n ct : Nat} {At : Option Addr} {W : World} (hT : StAt 5 NdR W At n t) (hw : TWf t) (hn : n ≤ 900000) (k : Nat) (hk : k < n) (fr : T.F) (hfr : T.Rep t [(k : Int)] fr) :
 Calls Tryz.prog 95 #[.slice At n ct, .int .i64 (k : Int)] W fun e W' => ∃ A' c', e = .returned (.slice A' (T.canon fr).length c') ∧ StAt 5 NdR W' A' (T.canon fr).length (T.canon fr) ∧ Below W.heap.size W W' ∧ ∀ W'', (∀ i, W.heap.size ≤ i → i < W'.heap.size → W''.heap[i]? = W'.heap[i]?) → StAt 5 NdR W'' A' (T.canon fr).length (T.canon fr) := by
 obtain ⟨X, hX⟩ : ∃ X, X = (W.alloc (.cells #[.slice none 0 0, .map none] 148)).alloc (.map #[] 0) := ⟨_, rfl⟩
 have hmk := fun W => run_makeMap_any (P := Tryz.prog) Tryz.underlying150 W
 have hst := from_start (mk := T.mkA) (t := t) (g := 1) hX
 have Hcall := kH (gfrom_any (D := fun _ => True) hT hw (fun _ _ _ => trivial) (made_add [] W W.heap.size) T.mkA_ok (base := 0) (by omega) (by omega) (by omega) k hk (ct := ct) X (W.heap.size + 1) [] _ [] hst fr hfr)
 have HX := kH hX
 clear hT hw hst hfr
 go_enter Tryz.func95, Tryz.ntmps95
 go_wp2_with fail
 rw [← hX]
 clear hX hmk
 (with_reducible refine Hcall.out.mono ?_)
 rintro e w2 ⟨r, M', l', rfl, hr, hst, hkp, _, _, _⟩
 have hcn : (T.cnnG T.mkA fr []).1 = T.canon fr := by rw [T.cnnG_A]; rfl
 rw [hcn] at hst
 obtain ⟨v, fm, hrow, hown, _⟩ := hst.bu.cells
 obtain ⟨A', c', rfl⟩ := hown.form
 have k0 : w2.cell? ⟨W.heap.size, 0, none⟩ = some (.slice A' (T.canon fr).length c') := by rw [cell_of_row _ _ _ _ _ (0, 0) hrow]; rfl
 have Hown := kH hown
 have Hb := kH hst.bel
 have HM := kH hst.bu.in_
 clear hrow hown hst hkp hr hcn
 go_wp2
 go_ret
 exact ⟨A', c', rfl, Hown.out.stAt rfl, Hb.out, fun W'' h => OwnM.stAt (Hown.out.same fun i hi => h i (HM.out i hi).1 (HM.out i hi).2) rfl⟩
end
section
open Go.RowKit
theorem infoCd : (Tryz.prog.info? 88).map (fun i => (i.zero, i.size, i.bytes)) = some (some (.agg #[.int .i64 0, .int .i64 0, .int .u32 0]), 3, 24) := by kernel_rfl
end
section
open Go.RowKit
structure NdRel (B : Nat) (R : World → List Value → T.Nd → Prop) : Prop where
 form : ∀ {w us x}, R w us x → NdR w us x
 below : ∀ {w w' us x}, R w us x → Below w.heap.size w w' → R w' us x
 grown : ∀ {w w' us x} {row : Option Nat}, R w us x → w.grownBy w' row → (∀ g, row = some g → B ≤ g ∧ ∃ cur fr, w.heap[g]? = some (.cells cur 62 fr)) → R w' us x
def OwnR (R : World → List Value → T.Nd → Prop) (B : Nat) (w : World) (v : Value) (nds : List T.Nd) : Prop :=
 ∃ cells, OwnAt w 62 5 v nds.length cells ∧ (∀ (k : Nat) (x : T.Nd), nds[k]? = some x → R w ((cells.drop (k * 5)).take 5) x) ∧ ∀ g, v.ownBlock = some g → B ≤ g
section
variable {R : World → List Value → T.Nd → Prop} {B : Nat} {w w' : World} {v : Value} {nds : List T.Nd}
theorem OwnR.nil_ (R : World → List Value → T.Nd → Prop) (B : Nat) (w : World) : OwnR R B w (.slice none 0 0) [] := ⟨[], OwnAt.nil_ _ _ _, fun k x h => by simp at h, fun g h => by simp [Value.ownBlock] at h⟩
theorem OwnR.form (h : OwnR R B w v nds) : ∃ A c, v = .slice A nds.length c := by
 obtain ⟨cells, h1, _⟩ := h
 exact h1.form
theorem OwnR.below (hR : NdRel B R) (h : OwnR R B w v nds) (hb : Below w.heap.size w w') : OwnR R B w' v nds := by
 obtain ⟨cells, h1, h2, h3⟩ := h
 exact ⟨cells, h1.below hb h1.lt, fun k x hx => hR.below (h2 k x hx) hb, h3⟩
theorem OwnR.stAt (hR : NdRel B R) {A : Option Addr} {n c : Nat} (h : OwnR R B w (.slice A n c) nds) (hn : nds.length = n) : StAt 5 NdR w A n nds := by
 obtain ⟨cells, h1, h2, h3⟩ := h
 rw [hn] at h1
 exact h1.stAt hn fun k x hx => hR.form (h2 k x hx)
theorem OwnR.row (h : OwnR R B w v nds) : ∀ g, v.ownBlock = some g → B ≤ g ∧ ∃ cur fr, w.heap[g]? = some (.cells cur 62 fr) := by
 obtain ⟨cells, h1, h2, h3⟩ := h
 intro g hg
 refine ⟨h3 g hg, ?_⟩
 rcases h1.2 with ⟨rfl, _⟩ | ⟨g', off, cap, cur, rfl, hcur, _⟩
 · simp [Value.ownBlock] at hg
 · simp [Value.ownBlock] at hg
   subst hg
   exact ⟨cur, _, hcur⟩
end
def NdF (B : Nat) (w : World) (us : List Value) (x : T.Nd) : Prop :=
 ∃ A c, us = ndC x A c ∧ OwnAt w 3 1 (.slice A x.args.length c) x.args.length (x.args.map (Value.int .i64)) ∧ 0 ≤ x.imm ∧ x.imm < 4294967296 ∧ ∀ g, (Value.slice A x.args.length c).ownBlock = some g → B ≤ g
theorem ndF_rel (B : Nat) : NdRel B (NdF B) := by
 constructor
 · rintro w us x ⟨A, c, h1, h2, h3, h4, _⟩
   exact ⟨A, c, h1, h2.slInts, h3, h4⟩
 · rintro w w' us x ⟨A, c, h1, h2, h3, h4, h5⟩ hb
   exact ⟨A, c, h1, h2.below hb h2.lt, h3, h4, h5⟩
 · rintro w w' us x row ⟨A, c, h1, h2, h3, h4, h5⟩ hg hr
   refine ⟨A, c, h1, h2.kept hg ?_, h3, h4, h5⟩
   rcases e : (Value.slice A x.args.length c).ownBlock with _ | g
   · exact .inl rfl
   · refine .inr fun e' => ?_
     obtain ⟨_, cur, fr, hc⟩ := hr g e'.symm
     rcases h2.2 with ⟨e1, _⟩ | ⟨g', off, cap, cur', e1, hc', _⟩
     · rw [e1] at e; simp [Value.ownBlock] at e
     · rw [e1] at e
       simp [Value.ownBlock] at e
       subst e
       rw [hc] at hc'
       injection hc' with hc'
       injection hc' with _ hc' _
       exact absurd hc' (by decide)
end
section
open Go.RowKit
theorem take_next {α : Type} {l : List α} {j : Nat} {x : α} (h : l[j]? = some x) : l.take (j + 1) = l.take j ++ [x] := by
 rw [List.take_add_one, h]; rfl
end
section
open Go.RowKit
namespace R
theorem par_le (op : Int) : par op ≤ 3 := by
 unfold par T.ar
 repeat' split
 all_goals omega
theorem pnode_small {p : List T.Nd} {right : Bool} {k : Nat} {x : T.Nd} (h : pnode p right k x = true) : x.args.length ≤ 3 := by
 have h1 := (pnode_len h).1
 have := par_le x.op
 omega
end R
end
section
open Go.RowKit
theorem take_eq_step {α : Type} {l m : List α} {j : Nat} {x : α} (h : l.take j = m.take j) (h1 : l[j]? = some x) (h2 : m[j]? = some x) : l.take (j + 1) = m.take (j + 1) := by
 rw [take_next h1, take_next h2, h]
end
section
open Go.RowKit
def set5 (w : World) (g : Nat) (a0 a1 a2 a3 a4 : Value) : World := ((((w.setCell ⟨g, 0, none⟩ a0).setCell ⟨g, 1, none⟩ a1).setCell ⟨g, 2, none⟩ a2).setCell ⟨g, 3, none⟩ a3).setCell ⟨g, 4, none⟩ a4
theorem set5_row {w : World} {g : Nat} {T : TypeId} {b0 b1 b2 b3 b4 : Value} (a0 a1 a2 a3 a4 : Value) (h : w.heap[g]? = some (.cells #[b0, b1, b2, b3, b4] T (0, 0))) :
 (set5 w g a0 a1 a2 a3 a4).heap[g]? = some (.cells #[a0, a1, a2, a3, a4] T (0, 0)) := by
 have h1 := heap_setCell_same w g 0 _ _ a0 h
 have h2 := heap_setCell_same _ g 1 _ _ a1 h1
 have h3 := heap_setCell_same _ g 2 _ _ a2 h2
 have h4 := heap_setCell_same _ g 3 _ _ a3 h3
 exact heap_setCell_same _ g 4 _ _ a4 h4
theorem set5_below {W w : World} {g : Nat} (a0 a1 a2 a3 a4 : Value) (h : Below W.heap.size W w) (hg : W.heap.size ≤ g) : Below W.heap.size W (set5 w g a0 a1 a2 a3 a4) := by
 unfold set5
 exact ((((h.setCell (p := ⟨g, 0, none⟩) hg _).setCell (p := ⟨g, 1, none⟩) hg _).setCell (p := ⟨g, 2, none⟩) hg _).setCell (p := ⟨g, 3, none⟩) hg _).setCell (p := ⟨g, 4, none⟩) hg _
namespace R
end R
theorem drop_at {α : Type} {l : List α} {j : Nat} {x : α} (h : l[j]? = some x) : l.drop j = x :: l.drop (j + 1) := by
 obtain ⟨h1, h2⟩ := List.getElem?_eq_some_iff.1 h
 rw [List.drop_eq_getElem_cons h1, h2]
end
section
open Go.RowKit
namespace R
theorem pnode_w {p : List T.Nd} {right : Bool} {k : Nat} {x : T.Nd} (h : pnode p right k x = true) : 0 ≤ x.w ∧ x.w ≤ 32 := by
 unfold pnode at h
 simp only [Bool.and_eq_true, decide_eq_true_eq] at h
 exact ⟨h.1.1.1.1.2, h.1.1.1.2⟩
end R
end
section
namespace T
def tre : Nat → List Nd → List Int → F
 | 0, _, _ => .nil
 | n + 1, t, la => la.foldr (fun a rest => match t[a.toNat]? with
  | some x => .cons x.op x.w x.fl x.imm (tre n t x.args) rest
  | none => .nil) .nil
theorem tre_rep {t : List Nd} (ho : Ord t) : ∀ (n : Nat), n ≤ t.length → ∀ (la : List Int), (∀ a ∈ la, 0 ≤ a ∧ a < (n : Int)) → Rep t la (tre n t la) := by
 intro n
 induction n with
 | zero =>
  intro _ la h
  cases la with
  | nil => exact .nil
  | cons a la => have := h a (by simp); omega
 | succ n ih =>
  intro hn la h
  induction la with
  | nil => exact .nil
  | cons a la ih2 =>
   have hg := ih2 (fun b hb => h b (by simp [hb]))
   have ha := h a (by simp)
   have hl : a.toNat < t.length := by omega
   have hx := List.getElem?_eq_getElem hl
   have hf := ih (by omega) (t[a.toNat]).args (fun b hb => by have := ho _ _ hx b hb; omega)
   have e : tre (n + 1) t (a :: la) = .cons (t[a.toNat]).op (t[a.toNat]).w (t[a.toNat]).fl (t[a.toNat]).imm (tre n t (t[a.toNat]).args) (tre (n + 1) t la) := by
    show (match t[a.toNat]? with
     | some x => F.cons x.op x.w x.fl x.imm (tre n t x.args) (tre (n + 1) t la)
     | none => .nil) = _
    rw [hx]
   rw [e]
   exact .cons ha.1 hx hf hg
def root (t : List Nd) : F := tre t.length t [(t.length : Int) - 1]
theorem root_rep {t : List Nd} (ho : Ord t) (h : 1 ≤ t.length) : Rep t [(t.length : Int) - 1] (root t) := tre_rep ho _ (Nat.le_refl _) _ (fun a ha => by simp at ha; omega)
end T
namespace R
open T (Nd F)
theorem par_bd {op : Int} (h : 0 ≤ par op) : 0 ≤ op ∧ op ≤ 35 := by
 unfold par at h
 split at h
 · omega
 · split at h
   · omega
   · split at h
     · omega
     · have := ar_bd h; omega
end R
end
end Go.Proofs.YtbiopedpceddeaaGreatDoor
