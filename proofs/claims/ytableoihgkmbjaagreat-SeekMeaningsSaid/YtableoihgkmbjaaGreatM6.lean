/- Merged: Q11, Q12, Q13. -/
import Derived.Test.YtableoihgkmbjaaGreatM5
import Derived.RangeFuncCalls
import Derived.Test.YtableoihgkmbjaaGreatM3
import Derived.BigGuardPart
import Derived.Laws.StructEq
section
namespace Go.Proofs.YtableoihgkmbjaaGreat
open Go.RowKit
set_option linter.unusedVariables false
set_option linter.unusedSimpArgs false
attribute [local go_sem] Oper.semAt_some

/-- the mark that a range over a function leaves -/
def Mk (r : Nat) : Deferred := { target := .collected r, args := #[] }
/-- marks whose blocks hold no call -/
structure Marks (W : World) (B : Nat) (rs : List Nat) : Prop where
  nodup : rs.Nodup
  all : ∀ r ∈ rs, B ≤ r ∧ W.heap[r]? = some (.deferred (some []))

/-- what stays where marks are shut -/
structure Off (B : Nat) (W W' : World) : Prop where
  below : Below B W W'
  keep : ∀ (g : Nat) (o : Obj), W.heap[g]? = some o → (∀ ds, o ≠ .deferred ds) → W'.heap[g]? = some o
theorem Off.refl (B : Nat) (W : World) : Off B W W := ⟨Below.refl _ _, fun _ _ h _ => h⟩

theorem leaves_marks {F : Fence} {n : Nat} {P : Program} {fn : Func} {tmps : Array Value} {R : Ending → World → Prop} {B : Nat} : ∀ (rs : List Nat) (W : World), Marks W B rs →
    (∀ W', Off B W W' → ∃ v, (results fn tmps).run P W' = .ok v W' ∧ R (.returned v) W') → LeavesInM F n P fn tmps R (rs.map Mk) .returning W
  | [], W, _, h => h W (Off.refl _ _)
  | r :: rs, W, hm, h => by
    obtain ⟨hB, hr⟩ := hm.all r (List.mem_cons_self ..)
    refine ⟨by simp, .inl ⟨r, _, rfl, run_takeDeferred hr, ?_⟩⟩
    have hnd := List.nodup_cons.1 hm.nodup
    have hoff : Off B W (W.putObj r (.deferred none)) := ⟨below_putObj (Below.refl _ _) hB _, fun g o hg hne => by
      have : g ≠ r := by rintro rfl; rw [hr] at hg; exact hne _ (Option.some.inj hg).symm
      rw [World.putObj_heap_other this]; exact hg⟩
    refine leaves_marks rs _ ⟨hnd.2, fun r' hr' => ?_⟩ fun W' hW' => h W' ⟨hoff.below.trans hW'.below, fun g o hg hne => hW'.keep g o (hoff.keep g o hg hne) hne⟩
    obtain ⟨hB', h'⟩ := hm.all r' (List.mem_cons_of_mem _ hr')
    have : r' ≠ r := by rintro rfl; exact hnd.1 hr'
    exact ⟨hB', by rw [World.putObj_heap_other this]; exact h'⟩

/-- what holds between two rounds: the rows of fewer than q steps have been asked, and those of pre -/
structure ShI (k w : Nat) (t : List Int) (T : Option Addr) (m c : Nat) (W : World) (q : Nat) (pre : List (List K.Stp)) (rs : List Nat) (Y : World) : Prop where
  below : Below W.heap.size W Y
  size : W.heap.size + 1 + 1 + 1 + 1 ≤ Y.heap.size
  sp : Y.heap[W.heap.size]? = some (.cells #[.int .i64 k, .int .i64 w] 48 (0, 0))
  tb : Y.heap[W.heap.size + 1]? = some (.cells #[.slice T m c] 26 (0, 0))
  r6 : Y.heap[W.heap.size + 1 + 1]? = some (.cells #[.slice none 0 0] 24 (0, 0))
  r7 : Y.heap[W.heap.size + 1 + 1 + 1]? = some (.cells #[.bool false] 4 (0, 0))
  no : K.None_ k w t (K.upTo k q)
  no2 : K.None_ k w t pre
  marks : Marks Y W.heap.size rs
theorem Marks.lt {W : World} {B : Nat} {rs : List Nat} (h : Marks W B rs) : ∀ r ∈ rs, r < W.heap.size := fun r hr => (Array.getElem?_eq_some_iff.1 (h.all r hr).2).1
theorem Marks.keep {W Y : World} {B C : Nat} {rs : List Nat} (h : Marks W B rs) (hlt : ∀ r ∈ rs, r < C) (hk : ∀ g, g < C → Y.heap[g]? = W.heap[g]?) : Marks Y B rs := ⟨h.nodup, fun r hr => ⟨(h.all r hr).1, (hk r (hlt r hr)).trans (h.all r hr).2⟩⟩
theorem ShI.step {k w : Nat} {t : List Int} {T : Option Addr} {m c : Nat} {W : World} {q : Nat} {pre : List (List K.Stp)} {rs : List Nat} {Y Y' : World} {C : Nat} (h : ShI k w t T m c W q pre rs Y) (hb : Below C Y Y') (hC : W.heap.size + 1 + 1 + 1 + 1 ≤ C) (hlt : ∀ r ∈ rs, r < C) : ShI k w t T m c W q pre rs Y' :=
  ⟨h.below.trans (hb.mono (by omega)), Nat.le_trans h.size hb.size, (hb.block _ (by omega)).trans h.sp, (hb.block _ (by omega)).trans h.tb, (hb.block _ (by omega)).trans h.r6, (hb.block _ (by omega)).trans h.r7, h.no, h.no2, h.marks.keep hlt fun g hg => hb.block g hg⟩

theorem RowArg.ck {k w : Nat} {A A' : World} {x : List K.Stp} {args : Array Value} (h : RowArg k w A x args) (hc : CK A A') : RowArg k w A' x args := by
  obtain ⟨Ar, cr, Al, cl, rfl, h1, h2⟩ := h
  refine ⟨Ar, cr, Al, cl, rfl, ⟨h1.1, h1.2.1, fun j y hy => ?_⟩, ⟨h2.1, h2.2.1, fun j y hy => ?_⟩⟩
  · obtain ⟨b, off, us, e1, e2, e3, e4, e5⟩ := h1.2.2 j y hy
    exact ⟨b, off, us, e1, Nat.lt_of_lt_of_le e2 hc.size, e3, fun i u hu => hc.cell _ _ (e4 i u hu), e5⟩
  · obtain ⟨b, off, u, e1, e2, e3, e4⟩ := h2.2.2 j y hy
    exact ⟨b, off, u, e1, Nat.lt_of_lt_of_le e2 hc.size, hc.cell _ _ e3, e4⟩
theorem ShI.start (k w : Nat) (t : List Int) (T : Option Addr) (m c : Nat) (W : World) : ShI k w t T m c W 0 [] [] ((((W.alloc (.cells #[.int .i64 k, .int .i64 w] 48)).alloc (.cells #[.slice T m c] 26)).alloc (.cells #[.slice none 0 0] 24)).alloc (.cells #[.bool false] 4)) := by
  refine ⟨((((Below.refl _ _).alloc (Nat.le_refl _) _).alloc (by simp) _).alloc (by simp; omega) _).alloc (by simp; omega) _, by simp, ?_, ?_, ?_, ?_, fun r h => by simp [K.upTo] at h, fun r h => by simp at h, ⟨List.nodup_nil, fun r h => by simp at h⟩⟩
  · exact row_alloc (row_alloc (row_alloc (heap_alloc_new W _) _) _) _
  · exact row_alloc (row_alloc (new_two W _ _) _) _
  · exact row_alloc (by have := new_two (W.alloc (.cells #[.int .i64 k, .int .i64 w] 48)) (.cells #[.slice T m c] 26) (.cells #[.slice none 0 0] 24); simpa using this) _
  · have := new_two ((W.alloc (.cells #[.int .i64 k, .int .i64 w] 48)).alloc (.cells #[.slice T m c] 26)) (.cells #[.slice none 0 0] 24) (.cells #[.bool false] 4)
    simpa using this
theorem ShI.next {k w : Nat} {t : List Int} {T : Option Addr} {m c : Nat} {W : World} {q : Nat} {pre : List (List K.Stp)} {rs : List Nat} {Y : World} {x : List K.Stp} (h : ShI k w t T m c W q pre rs Y) (hx : K.meaning k w x ≠ t) : ShI k w t T m c W q (pre ++ [x]) rs Y :=
  ⟨h.below, h.size, h.sp, h.tb, h.r6, h.r7, h.no, fun r hr => by
    rcases List.mem_append.1 hr with hr | hr
    · exact h.no2 r hr
    · rw [List.mem_singleton.1 hr]; exact hx, h.marks⟩
theorem Marks.cons {W : World} {B g : Nat} {rs : List Nat} (h : Marks W B rs) (hg : W.heap[g]? = some (.deferred (some []))) (hB : B ≤ g) (hlt : ∀ r ∈ rs, r < g) : Marks W B (g :: rs) :=
  ⟨List.nodup_cons.2 ⟨fun hm => Nat.lt_irrefl _ (hlt g hm), h.nodup⟩, fun r hr => by
    rcases List.mem_cons.1 hr with rfl | hr
    · exact ⟨hB, hg⟩
    · exact h.all r hr⟩
theorem first_at {k w q most : Nat} {t : List Int} {pre : List (List K.Stp)} {x : List K.Stp} (h1 : K.None_ k w t (K.upTo k q)) (h2 : K.None_ k w t pre) (hp : pre ++ [x] <+: K.rows k q) (hx : K.meaning k w x = t) (hq : q < most) : K.first k w t most = some x := by
  obtain ⟨l, hl⟩ := hp
  refine K.first_some h1 (i := pre.length) (row := x) ?_ ?_ hx hq
  · rw [← hl, List.append_assoc, List.take_left]; exact h2
  · rw [← hl, List.append_assoc, List.getElem?_append_right (Nat.le_refl _)]; simp

/-- what holds where a row has been found -/
structure ShX (k w : Nat) (t : List Int) (W : World) (most : Nat) (rs : List Nat) (Y : World) : Prop where
  below : Below W.heap.size W Y
  found : ∃ r A cc, K.first k w t most = some r ∧ Y.heap[W.heap.size + 1 + 1]? = some (.cells #[.slice A r.length cc] 24 (0, 0)) ∧ Y.heap[W.heap.size + 1 + 1 + 1]? = some (.cells #[.bool true] 4 (0, 0)) ∧ OwnAt Y 46 3 (.slice A r.length cc) r.length (flatS r)
  marks : Marks Y W.heap.size rs
theorem ShX.lst {k w : Nat} {t : List Int} {W : World} {most : Nat} {rs : List Nat} {Y Y' : World} {C : Nat} (h : ShX k w t W most rs Y) (hb : Lst RowEx C Y Y') (hC : W.heap.size + 1 + 1 + 1 + 1 ≤ C) (hlt : ∀ r ∈ rs, r < C) : ShX k w t W most rs Y' := by
  obtain ⟨h1, ⟨r, A, cc, e1, e2, e3, e4⟩, h3⟩ := h
  refine ⟨h1.trans (hb.below.mono (by omega)), ⟨r, A, cc, e1, (hb.below.block _ (by omega)).trans e2, (hb.below.block _ (by omega)).trans e3, e4.same fun g hg => ?_⟩, h3.keep hlt fun g hg => hb.below.block g hg⟩
  obtain ⟨cur, hc⟩ := e4.typed g hg
  rw [hc]
  exact hb.cells g _ _ _ hc (by intro h; rcases h with h | h <;> exact absurd h (by decide))

set_option maxRecDepth 100000 in
set_option maxHeartbeats 4000000 in
theorem pshortest_any (k w : Nat) (most : Nat) (hk : k = 1 ∨ k = 2) (hw : w = 1 ∨ w = 2 ∨ w = 3) (hm : most ≤ 3) (T : Option Addr) (m c : Nat) (t : List Int) (W : World) (hT : SlAt (IntR .u32) W T m t) :
    Calls Tryz.prog 34 #[.agg #[.int .i64 k, .int .i64 w], .slice T m c, .int .i64 ((most : Int) - 1)] W fun e w' => Below W.heap.size W w' ∧
      ((∃ r A cc, K.first k w t most = some r ∧ e = .returned (.tuple #[.slice A r.length cc, .bool true]) ∧ StAt 3 StepR w' A r.length r) ∨ (K.first k w t most = none ∧ e = .returned (.tuple #[.slice none 0 0, .bool false]))) := by
  have HT := Lib.hid hT
  have HTW := Lib.hid (fun (Y : World) (h : Below W.heap.size W Y) => hT.below (monoInt _) h)
  have Hk := Lib.hid hk
  have Hw := Lib.hid hw
  clear hT hk hw
  refine (callsIn_wide (n := 0)).1 (callsIn_of_wp_marks Tryz.func34 rfl trivial ((wpIn_wide (n := 0)).2 ?_))
  simp only [Tryz.ntmps34, List.size_toArray, List.length_cons, List.length_nil, Nat.reduceAdd, Nat.reduceSub, Array.replicate_succ, Array.replicate_zero, List.push_toArray, List.append_toArray, List.nil_append, List.cons_append]
  have e0 : IntKind.i64.wrap ((most : Int) - 1 + 1) = (most : Int) := by rw [Int.sub_add_cancel]; exact IntWalk.i64_in _ (by omega)
  go_wp2
  try simp only [Int.sub_add_cancel]
  clear e0
  have H0 := Lib.hid (show ShI k w t T m c W 0 [] [] ((((W.alloc (.cells #[.int .i64 k, .int .i64 w] 48)).alloc (.cells #[.slice T m c] 26)).alloc (.cells #[.slice none 0 0] 24)).alloc (.cells #[.bool false] 4)) from ShI.start ..)
  refine wp_loop_ghost_k (fun n a X => ∃ (q : Nat) (rs : List Nat) (u8 u14 u15 u16 u17 u18 u26 : Value), n + q = most + 1 ∧ q ≤ most ∧ Hid (ShI k w t T m c W q [] rs X) ∧
    a = { tmps := #[.agg #[.int .i64 k, .int .i64 w], .slice T m c, .int .i64 ((most : Int) - 1), .pointer (some ⟨W.heap.size, 0, none⟩), .pointer (some ⟨W.heap.size + 1, 0, none⟩), undef, .pointer (some ⟨W.heap.size + 1 + 1, 0, none⟩), .pointer (some ⟨W.heap.size + 1 + 1 + 1, 0, none⟩), u8, undef, undef, .int .i64 ((most : Int) - 1), .int .i64 (most : Int), .int .i64 (q : Int), u14, u15, u16, u17, u18, undef, undef, undef, undef, undef, undef, undef, u26], defers := rs.map Mk }) (most + 1) ?_ ?_
  · exact ⟨0, [], undef, undef, undef, undef, undef, undef, undef, by omega, by omega, H0.out, rfl⟩
  · rintro n a X ⟨q, rs, u8, u14, u15, u16, u17, u18, u26, hn, hq, HI, rfl⟩ Jr Kr hJr hKr
    have HKr := Lib.hid hKr
    have HJr := Lib.hid hJr
    have Hn := Lib.hid hn
    clear hKr hJr hn
    by_cases hlq : q < most
    · have hsp := HI.out.sp
      have hc0 : X.cell? ⟨W.heap.size, 0, none⟩ = some (.int .i64 (k : Int)) := by rw [cell_of_row _ _ _ _ _ (0, 0) hsp]; rfl
      have hc1 : X.cell? ⟨W.heap.size, 1, none⟩ = some (.int .i64 (w : Int)) := by rw [cell_of_row _ _ _ _ _ (0, 0) hsp]; rfl
      clear hsp
      go_wp2_with (go_at_call 58; (with_reducible refine (prows_any _ _ _ _).mono ?_); rintro e X1 ⟨rfl, hX1⟩; have HX1 := Lib.hid hX1; clear hX1)
      clear hc0 hc1
      have hs1 : X1.heap.size = X.heap.size + 1 + 1 := by rw [HX1.out]; simp
      have Hs1 := Lib.hid hs1
      have hsl1 : SLAt k w q X.heap.size (X.heap.size + 1) X1 := by rw [HX1.out]; exact ⟨row_alloc (heap_alloc_new X _) _, new_two X _ _⟩
      have hb1 : Below X.heap.size X X1 := by rw [HX1.out]; exact ((Below.refl _ _).alloc (Nat.le_refl _) _).alloc (by simp) _
      have hlt : ∀ r ∈ rs, r < X1.heap.size := fun r hr => by have := HI.out.marks.lt r hr; omega
      have hge : W.heap.size + 1 + 1 + 1 + 1 ≤ X1.heap.size := by have := HI.out.size; omega
      have hI1 : ShI k w t T m c W q [] rs X1 := HI.out.step hb1 HI.out.size HI.out.marks.lt
      have Hlt := Lib.hid hlt
      have Hge := Lib.hid hge
      have HI1 := Lib.hid hI1
      have Hsl1 := Lib.hid hsl1
      clear hs1 hsl1 hb1 hlt hge hI1
      refine wp_rangeFunc_B (gf := 79) (lb := #[.pointer (some ⟨X.heap.size, 0, none⟩), .pointer (some ⟨X.heap.size + 1, 0, none⟩)]) rfl (enters_of Tryz.func79 (by kernel_rfl) rfl)
        (Arg := RowArg k w) (SL := SLAt k w q X.heap.size (X.heap.size + 1)) (xs := K.rows k q) (ex := RowEx) (fun Wc _ _ => rows1_any k w q _ _ Hk.out Hw.out (by omega) Wc) ?hps ?hArg
        (fun pre Y => ShI k w t T m c W q pre rs Y ∧ SLAt k w q X.heap.size (X.heap.size + 1) Y ∧ X1.heap.size ≤ Y.heap.size)
        (fun cd Y => cd = .ret ∧ ShX k w t W most rs Y ∧ SLAt k w q X.heap.size (X.heap.size + 1) Y ∧ X1.heap.size ≤ Y.heap.size)
        ?hI ?hIx (fun pre A h => h.2.1) (fun cd A h => h.2.2.1) ⟨HI1.out, Hsl1.out, Nat.le_refl _⟩
        (fun args => { tmps := #[.agg #[.int .i64 k, .int .i64 w], .slice T m c, .int .i64 ((most : Int) - 1), .pointer (some ⟨W.heap.size, 0, none⟩), .pointer (some ⟨W.heap.size + 1, 0, none⟩), undef, .pointer (some ⟨W.heap.size + 1 + 1, 0, none⟩), .pointer (some ⟨W.heap.size + 1 + 1 + 1, 0, none⟩), .int .i64 (q : Int), args.getD 0 undef, args.getD 1 undef, .int .i64 ((most : Int) - 1), .int .i64 (most : Int), .int .i64 (q : Int), .bool true, .int .i64 (q : Int), .agg #[.int .i64 k, .int .i64 w], .int .i64 (q : Int), .func (.func 79) #[] #[.pointer (some ⟨X.heap.size, 0, none⟩), .pointer (some ⟨X.heap.size + 1, 0, none⟩)], args.getD 0 undef, args.getD 1 undef, undef, undef, undef, undef, undef, u26], defers := [] })
        ?assign ?body ?done ?stop
      case hps => rintro A x args ⟨Ar, cr, Al, cl, rfl, _⟩; rfl
      case hArg =>
        exact fun A A' x args h hck => h.ck hck
      case hI =>
        rintro pre A A' ⟨h1, h2, h3⟩ hb
        have := Hs1.out
        exact ⟨h1.step hb Hge.out Hlt.out, ⟨(hb.block _ (by omega)).trans h2.1, (hb.block _ (by omega)).trans h2.2⟩, Nat.le_trans h3 hb.size⟩
      case hIx =>
        rintro cd A A' ⟨h0, h1, h2, h3⟩ hb
        have := Hs1.out
        exact ⟨h0, h1.lst hb Hge.out Hlt.out, ⟨(hb.below.block _ (by omega)).trans h2.1, (hb.below.block _ (by omega)).trans h2.2⟩, Nat.le_trans h3 hb.below.size⟩
      case assign =>
        rintro l x args A KK ⟨Ar, cr, Al, cl, rfl, _, _⟩ hK
        have HK := Lib.hid hK; clear hK
        gi_wp2
        exact HK.out
      case body =>
        rintro l pre x args A ⟨h1, h2, h3⟩ ⟨Ar, cr, Al, cl, rfl, h4, h5⟩ h6 h7
        have hsT := (HTW.out A h1.below)
        have htc := one_cell h1.tb
        have c6 := one_cell h1.r6
        have c7 := one_cell h1.r7
        have f6 := free_of_one h1.r6
        have f7 := free_of_one h1.r7
        have HEq := Lib.hid (equalW_any Al T (K.size k w) m cl c _ _ A h5 hsT)
        have Hh1 := Lib.hid h1
        have Hh2 := Lib.hid h2
        have Hh3 := Lib.hid h3
        have Hh4 := Lib.hid h4
        have Hh7 := Lib.hid h7
        clear hsT h1 h2 h3 h4 h5 h6 h7
        by_cases hmean : K.meaning k w x = t
        · rw [decide_eq_true hmean] at HEq
          have Hmean := Lib.hid hmean; clear hmean
          gi_wp2
          refine ⟨trivial, rfl, ?_⟩
          refine (CallsIn.inRound l (callsIn_wide.2 HEq.out)).mono ?_
          rintro e A2 ⟨rfl, hd2⟩
          have hbA := hd2.below A.heap.size
          have Hd2 := Lib.hid hd2
          have Hh1' := Lib.hid (show ShI k w t T m c W q pre rs A2 from Hh1.out.step (hd2.below X1.heap.size) Hge.out Hlt.out)
          have Hh2' := Lib.hid (show SLAt k w q X.heap.size (X.heap.size + 1) A2 from by obtain ⟨nn, rfl⟩ := hd2; exact Hh2.out)
          have Hkp := Lib.hid (show Kpt X1.heap.size A A2 from by obtain ⟨nn, rfl⟩ := hd2; exact ⟨Nat.le_refl _, fun _ _ _ => rfl⟩)
          have Hrow := Lib.hid (show StAt 3 StepR A2 Ar x.length x from Hh4.out.dr monoStep hd2)
          have Hsz2 := Lib.hid (show A2.heap.size = A.heap.size from by obtain ⟨nn, rfl⟩ := hd2; rfl)
          have c6 := one_cell Hh1'.out.r6
          have c7 := one_cell Hh1'.out.r7
          have f6 := free_of_one Hh1'.out.r6
          have f7 := free_of_one Hh1'.out.r7
          clear hd2 hbA htc
          gi_wp2
          refine ⟨trivial, rfl, ?_⟩
          have hxl : x.length = q := K.rows_len (Hh7.out.subset (by simp))
          refine (CallsIn.inRound l (callsIn_wide.2 (cloneS_any Ar x.length cr x A2 Hrow.out (by omega)))).mono ?_
          rintro e A3 ⟨A', c', rfl, hown, hb3, hge3⟩
          clear c6 c7 f6 f7 hxl
          have Hown := Lib.hid hown
          have Hb3 := Lib.hid hb3
          have Hge3 := Lib.hid hge3
          have hX1 : X1.heap.size ≤ A2.heap.size := by have := Hsz2.out; have := Hh3.out; omega
          have hA3 := Hh1'.out.step hb3 (Nat.le_trans Hge.out hX1) (fun r hr => Nat.lt_of_lt_of_le (Hlt.out r hr) hX1)
          have HA3 := Lib.hid hA3
          have HX1' := Lib.hid hX1
          have c6 := one_cell hA3.r6
          have c7 := one_cell hA3.r7
          have f6 := free_of_one hA3.r6
          have f7 := free_of_one hA3.r7
          clear hown hb3 hge3 hA3 hX1
          gi_wp2
          obtain ⟨g1, g2, g3⟩ := two_set (x := .slice A' x.length c') (y := .bool true) HA3.out.r6 HA3.out.r7 (by decide)
          have hW := HI.out.size
          have hs1 := Hs1.out
          refine ⟨⟨?_, fun g hg hl => ?_⟩, rfl, ⟨?_, ⟨x, A', c', first_at Hh1.out.no Hh1.out.no2 Hh7.out Hmean.out hlq, g1, g2, Hown.out.same fun g hg => ?_⟩, ?_⟩, ?_, ?_⟩
          · have := Hb3.out.size; have := Hsz2.out; simp; omega
          · rw [g3 g (by omega) (by omega), Hb3.out.block g (by rw [Hsz2.out]; exact hl)]
            exact Hkp.out.block g hg hl
          · exact below_two HA3.out.below (by omega) (by omega)
          · have := Hge3.out g hg
            have := Hge.out
            have := HX1'.out
            exact g3 g (by omega) (by omega)
          · refine ⟨HA3.out.marks.nodup, fun r hr => ⟨(HA3.out.marks.all r hr).1, ?_⟩⟩
            have h1 := (HA3.out.marks.all r hr).2
            rw [g3 r (by rintro rfl; rw [HA3.out.r6] at h1; cases h1) (by rintro rfl; rw [HA3.out.r7] at h1; cases h1)]
            exact h1
          · have e1 := Hh2'.out.1
            have e2 := Hh2'.out.2
            have hl := HX1'.out
            exact ⟨(g3 _ (by omega) (by omega)).trans ((Hb3.out.block _ (by omega)).trans e1), (g3 _ (by omega) (by omega)).trans ((Hb3.out.block _ (by omega)).trans e2)⟩
          · have := Hb3.out.size; have := HX1'.out; simp; omega
        · rw [decide_eq_false hmean] at HEq
          have Hmean := Lib.hid hmean; clear hmean
          gi_wp2
          refine ⟨trivial, rfl, ?_⟩
          refine (CallsIn.inRound l (callsIn_wide.2 HEq.out)).mono ?_
          rintro e A2 ⟨rfl, hd2⟩
          have hbA := hd2.below A.heap.size
          have Hd2 := Lib.hid hd2
          have Hh1' := Lib.hid (show ShI k w t T m c W q pre rs A2 from Hh1.out.step (hd2.below X1.heap.size) Hge.out Hlt.out)
          have Hh2' := Lib.hid (show SLAt k w q X.heap.size (X.heap.size + 1) A2 from by obtain ⟨nn, rfl⟩ := hd2; exact Hh2.out)
          have Hkp := Lib.hid (show Kpt X1.heap.size A A2 from by obtain ⟨nn, rfl⟩ := hd2; exact ⟨Nat.le_refl _, fun _ _ _ => rfl⟩)
          have Hrow := Lib.hid (show StAt 3 StepR A2 Ar x.length x from Hh4.out.dr monoStep hd2)
          have Hsz2 := Lib.hid (show A2.heap.size = A.heap.size from by obtain ⟨nn, rfl⟩ := hd2; rfl)
          clear hd2 hbA htc
          gi_wp2
          exact ⟨Hkp.out, Hh1'.out.next Hmean.out, Hh2'.out, by rw [Hsz2.out]; exact Hh3.out⟩
      case done =>
        rintro Y ⟨h1, h2, h3⟩ h4 h5
        have Hm := Lib.hid (h1.marks.cons h4 (by have := Hge.out; omega) Hlt.out)
        have Hh1 := Lib.hid h1
        clear h1 h2 h3 h4 h5
        go_wp2
        have hn := Hn.out
        refine HKr.out _ _ ⟨n - 1, by omega, HJr.out _ _ _ ⟨q + 1, X1.heap.size :: rs, .int .i64 (q : Int), .bool true, .int .i64 (q : Int), .agg #[.int .i64 k, .int .i64 w], .int .i64 (q : Int), .func (.func 79) #[] #[.pointer (some ⟨X.heap.size, 0, none⟩), .pointer (some ⟨X.heap.size + 1, 0, none⟩)], .int .i64 ((q : Int) + 1), by omega, by omega, ⟨Hh1.out.below, Hh1.out.size, Hh1.out.sp, Hh1.out.tb, Hh1.out.r6, Hh1.out.r7, Hh1.out.no.up Hh1.out.no2, fun r h => (by simp at h), Hm.out⟩, ?_⟩⟩
        rw [show ((q + 1 : Nat) : Int) = (q : Int) + 1 from rfl]
        rfl
      case stop =>
        rintro cd Y ⟨rfl, h1, h2, h3⟩ h4 h5
        have Hm := Lib.hid (h1.marks.cons h4 (by have := Hge.out; omega) Hlt.out)
        have Hh1 := Lib.hid h1
        clear h1 h2 h3 h4 h5
        go_wp2
        refine leaves_marks (B := W.heap.size) (X1.heap.size :: rs) Y Hm.out fun W' hW' => ?_
        obtain ⟨r, A, cc, e1, e2, e3, e4⟩ := Hh1.out.found
        have c6 := one_cell (hW'.keep _ _ e2 (fun ds h => by cases h))
        have c7 := one_cell (hW'.keep _ _ e3 (fun ds h => by cases h))
        refine ⟨.tuple #[.slice A r.length cc, .bool true], by simp [results, Tryz.f34, go_sem, c6, c7], Hh1.out.below.trans hW'.below, .inl ⟨r, A, cc, e1, rfl, own_row (e4.same fun g hg => ?_)⟩⟩
        obtain ⟨cur, hc⟩ := e4.typed g hg
        rw [hc]
        exact hW'.keep _ _ hc (fun ds h => by cases h)
    · obtain rfl : q = most := by omega
      have c6 := one_cell HI.out.r6
      have c7 := one_cell HI.out.r7
      have f6 := free_of_one HI.out.r6
      have f7 := free_of_one HI.out.r7
      go_wp2
      obtain ⟨g1, g2, g3⟩ := two_set (x := .slice none 0 0) (y := .bool false) HI.out.r6 HI.out.r7 (by decide)
      refine leaves_marks (B := W.heap.size) rs _ ⟨HI.out.marks.nodup, fun r hr => ⟨(HI.out.marks.all r hr).1, ?_⟩⟩ fun W' hW' => ?_
      · have h1 := (HI.out.marks.all r hr).2
        rw [g3 r (by rintro rfl; rw [HI.out.r6] at h1; cases h1) (by rintro rfl; rw [HI.out.r7] at h1; cases h1)]
        exact h1
      · have c6 := one_cell (hW'.keep _ _ g1 (fun ds h => by cases h))
        have c7 := one_cell (hW'.keep _ _ g2 (fun ds h => by cases h))
        exact ⟨.tuple #[.slice none 0 0, .bool false], by simp [results, Tryz.f34, go_sem, c6, c7], (below_two HI.out.below (by omega) (by omega)).trans hW'.below, .inr ⟨K.first_none HI.out.no, rfl⟩⟩
end Go.Proofs.YtableoihgkmbjaaGreat
end
section
namespace Go.Proofs.YtableoihgkmbjaaGreat
open Go.RowKit
set_option linter.unusedVariables false
set_option linter.unusedSimpArgs false

theorem shortest_cases (k w : Int) (t : List Int) : K.shortest k w t = if (K.over k w && K.isTable k.toNat w.toNat t) = true then (match K.first k.toNat w.toNat t 3 with | some r => (r, true, (0 : Int)) | none => ([], false, 0)) else ([], false, 1) := by
  unfold K.shortest
  cases K.over k w <;> cases K.isTable k.toNat w.toNat t <;> first | rfl | simp

set_option maxRecDepth 100000 in
set_option maxHeartbeats 1000000 in
theorem pShortest_any (k w : Int) (A : Option Addr) (m c : Nat) (t : List Int) (W : World) (hA : SlAt (IntR .u32) W A m t) :
    Calls Tryz.prog 18 #[.int .i64 k, .int .i64 w, .slice A m c] W (Res3 W (K.shortest k w t)) := by
  have HP := Lib.hid (fun W' (h : Below W.heap.size W W') => pasked_any k w A m c t W' (hA.below (monoInt _) h))
  have hB1 := Lib.hid (show Below W.heap.size W (W.alloc (.cells #[.int .i64 k, .int .i64 w] 48)) from (Below.refl _ _).alloc (Nat.le_refl _) _)
  have hS1 : (W.alloc (.cells #[.int .i64 k, .int .i64 w] 48)).heap[W.heap.size]? = some (.cells #[.int .i64 k, .int .i64 w] 48 (0, 0)) := heap_alloc_new W _
  have HS1 := Lib.hid hS1
  have HA := Lib.hid hA
  cases hc : (K.over k w && K.isTable k.toNat w.toNat t)
  · have hs : K.shortest k w t = ([], false, 1) := by rw [shortest_cases, hc]; rfl
    rw [hs]
    rw [hc] at HP
    clear hs hc hA hS1
    go_enter Tryz.func18, Tryz.ntmps18
    go_wp2_with fail
    refine (HP.out _ hB1.out).mono ?_
    rintro e w' ⟨rfl, hb⟩
    have Hb := Lib.hid hb; clear hb
    go_wp2
    go_ret3
    exact ⟨none, 0, rfl, StAt.nil_ _, hB1.out.trans (Hb.out.mono (by simp))⟩
  · have hs : K.shortest k w t = (match K.first k.toNat w.toNat t 3 with | some r => (r, true, 0) | none => ([], false, 0)) := by rw [shortest_cases, hc]; rfl
    have hov : K.over k w = true := by cases h : K.over k w; · rw [h] at hc; cases hc
                                       · rfl
    have hkw := K.over_iff.1 hov
    obtain ⟨kN, rfl⟩ : ∃ kN : Nat, k = kN := ⟨k.toNat, by omega⟩
    obtain ⟨wN, rfl⟩ : ∃ wN : Nat, w = wN := ⟨w.toNat, by omega⟩
    have HX := Lib.hid (fun W' (h : Below W.heap.size W W') => pshortest_any kN wN 3 (by omega) (by omega) (by omega) A m c t W' (hA.below (monoInt _) h))
    rw [hc] at HP
    have Hs := Lib.hid hs
    clear hs hc hA hS1 hov hkw
    go_enter Tryz.func18, Tryz.ntmps18
    go_wp2_with fail
    refine (HP.out _ hB1.out).mono ?_
    rintro e w1 ⟨rfl, hb⟩
    have hs := row_step (Lib.hid hb) HS1.out
    have hc0 : w1.cell? ⟨W.heap.size, 0, none⟩ = some (.int .i64 (kN : Int)) := by rw [cell_of_row _ _ _ _ _ (0, 0) hs]; rfl
    have hc1 : w1.cell? ⟨W.heap.size, 1, none⟩ = some (.int .i64 (wN : Int)) := by rw [cell_of_row _ _ _ _ _ (0, 0) hs]; rfl
    have Hb := Lib.hid (hB1.out.trans (hb.mono (by simp))); clear hb hs
    go_wp2_with fail
    refine (HX.out w1 Hb.out).mono ?_
    rintro e w2 ⟨hb2, (⟨r, A2, cc, hf, rfl, hst⟩ | ⟨hf, rfl⟩)⟩
    · have Hb2 := Lib.hid (Hb.out.trans (hb2.mono Hb.out.size))
      have Hst := Lib.hid hst
      have Hf := Lib.hid hf
      clear hb2 hst hf
      go_wp2
      go_ret3
      refine ⟨A2, cc, ?_, ?_, Hb2.out⟩
      · rw [Hs.out]; simp only [Int.toNat_natCast, Hf.out]; rfl
      · rw [Hs.out]; simp only [Int.toNat_natCast, Hf.out]; exact Hst.out
    · have Hb2 := Lib.hid (Hb.out.trans (hb2.mono Hb.out.size))
      have Hf := Lib.hid hf
      clear hb2 hf
      go_wp2
      go_ret3
      refine ⟨none, 0, ?_, ?_, Hb2.out⟩
      · rw [Hs.out]; simp only [Int.toNat_natCast, Hf.out]; rfl
      · rw [Hs.out]; simp only [Int.toNat_natCast, Hf.out]; exact StAt.nil_ _

/-- three fields of type e, one cell each, none of them blank -/
def threeB (fs : List Field) (e : TypeId) : Bool := match fs with
  | [f0, f1, f2] => decide (f0.name ≠ "_") && decide (f1.name ≠ "_") && decide (f2.name ≠ "_") && decide (f0.type = e) && decide (f1.type = e) && decide (f2.type = e) && decide (f0.offset = 0) && decide (f1.offset = 1) && decide (f2.offset = 2)
  | _ => false
theorem threeB_spec {fs : List Field} {e : TypeId} (h : threeB fs e = true) : ∃ f0 f1 f2 : Field, fs = [f0, f1, f2] ∧ f0.name ≠ "_" ∧ f1.name ≠ "_" ∧ f2.name ≠ "_" ∧ f0.type = e ∧ f1.type = e ∧ f2.type = e ∧ f0.offset = 0 ∧ f1.offset = 1 ∧ f2.offset = 2 := by
  unfold threeB at h
  split at h
  · rename_i f0 f1 f2
    simp only [Bool.and_eq_true, decide_eq_true_eq] at h
    obtain ⟨⟨⟨⟨⟨⟨⟨⟨a, b⟩, c⟩, d⟩, e⟩, f⟩, g⟩, i⟩, j⟩ := h
    exact ⟨f0, f1, f2, rfl, a, b, c, d, e, f, g, i, j⟩
  · cases h
theorem stepStruct : Tryz.prog.underlying 46 = some (.struct (Tryz.prog.fieldsOf 46)) := by kernel_rfl
theorem stepHeld : Tryz.prog.stoodInHeld 46 = false := by kernel_rfl
theorem stepFields : threeB (Tryz.prog.fieldsOf 46).toList 3 = true := by kernel_rfl
set_option maxRecDepth 100000 in
theorem eqF_step (p q : K.Stp) (W : World) : (Op.equalIn 10000 46 (.agg #[.int .i64 p.1, .int .i64 p.2.1, .int .i64 p.2.2]) (.agg #[.int .i64 q.1, .int .i64 q.2.1, .int .i64 q.2.2])).run Tryz.prog W = .ok (decide (p = q)) W := by
  obtain ⟨f0, f1, f2, hf, n0, n1, n2, t0, t1, t2, o0, o1, o2⟩ := threeB_spec stepFields
  rw [run_equalIn_agg W 9999 46 _ _ stepStruct stepHeld, hf]
  have hi : Tryz.prog.underlying 3 = some (.int .i64) := Tryz.underlying3
  simp [Op.eqFields, n0, n1, n2, t0, t1, t2, o0, o1, o2, go_sem]
  obtain ⟨a, b, c⟩ := p
  obtain ⟨d, e, f⟩ := q
  simp only [Prod.mk.injEq]
  by_cases h1 : a = d <;> by_cases h2 : b = e <;> by_cases h3 : c = f <;> simp [h1, h2, h3]
theorem neq_step (p q : K.Stp) (W : World) : (binOp .neq 46 (.agg #[.int .i64 p.1, .int .i64 p.2.1, .int .i64 p.2.2]) (.agg #[.int .i64 q.1, .int .i64 q.2.1, .int .i64 q.2.2])).run Tryz.prog W = .ok (.bool (!decide (p = q))) W := by
  rw [run_neq_struct, eqF_step]; rfl
theorem eql_step (p q : K.Stp) (W : World) : (binOp .eql 46 (.agg #[.int .i64 p.1, .int .i64 p.2.1, .int .i64 p.2.2]) (.agg #[.int .i64 q.1, .int .i64 q.2.1, .int .i64 q.2.2])).run Tryz.prog W = .ok (.bool (decide (p = q))) W := by
  rw [run_eql_struct, eqF_step]; rfl

theorem known_plain : K.shortest 1 3 [7, 0, 1, 2, 3, 4, 5, 6] = ([(1, 0, 2)], true, 0) := by decide +kernel
end Go.Proofs.YtableoihgkmbjaaGreat
end
section
namespace Go.Proofs.YtableoihgkmbjaaGreat
open Go.RowKit
set_option linter.unusedVariables false
set_option linter.unusedSimpArgs false

set_option maxRecDepth 100000 in
set_option maxHeartbeats 1000000 in
theorem known_any (W : World) : Calls Tryz.prog 6 #[] W fun e w' => e = .returned (.bool true) ∧ Below W.heap.size W w' := by
  have hT : SlAt (IntR .u32) (W.alloc (.cells #[.int .u32 7, .int .u32 0, .int .u32 1, .int .u32 2, .int .u32 3, .int .u32 4, .int .u32 5, .int .u32 6] 39)) (some ⟨W.heap.size, 0, none⟩) 8 [7, 0, 1, 2, 3, 4, 5, 6] :=
    (OwnAt.of_new (s := 1) W #[.int .u32 7, .int .u32 0, .int .u32 1, .int .u32 2, .int .u32 3, .int .u32 4, .int .u32 5, .int .u32 6] 8 rfl (by simp [maxLen])).slInts
  have HS := Lib.hid (pShortest_any 1 3 _ 8 8 _ _ hT)
  rw [known_plain] at HS
  have hB1 := Lib.hid (show Below W.heap.size W (W.alloc (.cells #[.int .u32 7, .int .u32 0, .int .u32 1, .int .u32 2, .int .u32 3, .int .u32 4, .int .u32 5, .int .u32 6] 39)) from (Below.refl _ _).alloc (Nat.le_refl _) _)
  clear hT
  go_enter Tryz.func6, Tryz.ntmps6
  go_wp2_with fail
  refine HS.out.mono ?_
  rintro e w1 ⟨A, c, rfl, hst, hb⟩
  have Hb := Lib.hid (hB1.out.trans (hb.mono (by simp)))
  obtain ⟨b, off, us, hA, _, _, h1, hu⟩ := hst.2.2 0 (1, 0, 2) rfl
  have hu' : us = cellsS (1, 0, 2) := hu
  subst hu' hA
  have a0 := h1 0 (.int .i64 1) rfl
  have a1 := h1 1 (.int .i64 0) rfl
  have a2 := h1 2 (.int .i64 2) rfl
  simp only [Nat.zero_mul, Nat.add_zero] at a0 a1 a2
  have hq := fun W' : World => eql_step (1, 0, 2) (1, 0, 2) W'
  clear hst hb h1 hu
  go_wp2
  go_ret
  exact ⟨rfl, Hb.out⟩

end Go.Proofs.YtableoihgkmbjaaGreat
end
