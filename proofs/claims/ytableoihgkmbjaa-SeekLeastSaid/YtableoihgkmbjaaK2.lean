/- Walks of the reference's layer of rows: inputs. -/
import Derived.Test.YtableoihgkmbjaaK1
import Derived.Deep.LoopGhost
namespace Go.Proofs.Ytableoihgkmbjaa
open Go.RowKit
set_option linter.unusedVariables false

/-- a row of words that the call itself has made -/
def RowU (w : World) (u : Value) (x : List Int) : Prop := OwnAt w 40 1 u x.length (x.map (Value.int .u32))
theorem RowU.slR {w : World} {u : Value} {x : List Int} (h : RowU w u x) : SlR (IntR .u32) w u x := by
  have h' : OwnAt w 40 1 u x.length (x.map (Value.int .u32)) := h
  obtain ⟨A, c, rfl⟩ := h'.form
  exact ⟨A, c, rfl, h'.slInts⟩
theorem RowU.elems {w : World} {us : List Value} {xs : List (List Int)} (h : Elems RowU w us xs) : Elems (SlR (IntR .u32)) w us xs := h.map_ fun u x hu => RowU.slR hu
theorem RowU.kept {w w' : World} {u : Value} {x : List Int} {e : TypeId} {v : Value} {n : Nat} {vs : List Value} (h : RowU w u x) (hown : OwnAt w e 1 v n vs) (hne : 40 ≠ e) (o : Obj) (hg : (w.alloc o).grownBy w' v.ownBlock) : RowU w' u x :=
  OwnAt.kept (OwnAt.alloc h o) hg (ownAt_ne h hown hne)
theorem RowU.alloc {w : World} {u : Value} {x : List Int} (h : RowU w u x) (o : Obj) : RowU (w.alloc o) u x := OwnAt.alloc h o

theorem pow_facts {w : Nat} (hw : w = 1 ∨ w = 2 ∨ w = 3) : wrap64 (2 ^ w) = ((2 ^ w : Nat) : Int) ∧ 2 ^ w ≤ 8 ∧ 0 < 2 ^ w := by
  rcases hw with rfl | rfl | rfl
  all_goals exact ⟨by rw [B.wrap64_id (by decide) (by decide)]; rfl, by decide, by decide⟩

theorem inputs1 (w : Nat) : K.inputs 1 w = (List.range (2 ^ w)).map fun a : Nat => [(a : Int)] := by
  unfold K.inputs K.size K.inp; simp

set_option maxRecDepth 100000 in
set_option maxHeartbeats 2000000 in
theorem rinputs1_any (w : Nat) (hw : w = 1 ∨ w = 2 ∨ w = 3) (W : World) :
    Calls Try.prog 19 #[.int .i64 1, .int .i64 w] W fun e w' => ∃ A c, e = .returned (.slice A (K.size 1 w) c) ∧ SlAt (SlR (IntR .u32)) w' A (K.size 1 w) (K.inputs 1 w) ∧ Below W.heap.size W w' := by
  obtain ⟨p0, p1, p2⟩ := pow_facts hw
  have hsz : K.size 1 w = 2 ^ w := by unfold K.size; rw [Nat.one_mul]
  rw [hsz, inputs1]
  have hw3 : w ≤ 3 := by omega
  clear hw hsz
  obtain ⟨N, hN⟩ : ∃ N, N = 2 ^ w := ⟨_, rfl⟩
  rw [← hN] at p0 p1 p2 ⊢
  have HN := Lib.hid hN; clear hN
  go_enter Try.func19, Try.ntmps19
  go_wp2
  go_loopg [5, 6] (N + 1) (fun g v i wr => ∃ (j : Nat) (vs : List Value), j ≤ N ∧ i = .int .i64 (j : Int) ∧ g + j = N + 1 ∧ OwnAt wr 24 1 v j vs ∧ Elems RowU wr vs ((List.range j).map fun a : Nat => [(a : Int)]) ∧ Below W.heap.size W wr ∧ (∀ g, v.ownBlock = some g → W.heap.size ≤ g))
  case atStart => exact ⟨0, [], Nat.zero_le _, rfl, rfl, OwnAt.nil_ _ _ _, Elems.nil_, Below.refl _ _, fun g hg => by simp [Value.ownBlock] at hg⟩
  case round =>
    obtain ⟨j, vs, hj, rfl, hgk, hown, hel, hbw, hob⟩ := hrel
    have Hgk := Lib.hid hgk; clear hgk
    have Hown := Lib.hid hown; clear hown
    have Hel := Lib.hid hel; clear hel
    have Hob := Lib.hid hob; clear hob
    by_cases hlt : j < N
    · have hb1 : Below W.heap.size W (wr.alloc (.cells #[.int .u32 (j : Int)] 40)) := hbw.alloc hbw.size _
      have Hown1 := Lib.hid (Hown.out.alloc (.cells #[.int .u32 (j : Int)] 40))
      have Hel1 := Lib.hid (show Elems RowU (wr.alloc (.cells #[.int .u32 (j : Int)] 40)) vs _ from Hel.out.map_ fun u x h => RowU.alloc h _)
      have Hnew := Lib.hid (show RowU (wr.alloc (.cells #[.int .u32 (j : Int)] 40)) (.slice (some ⟨wr.heap.size, 0, none⟩) 1 1) [(j : Int)] from OwnAt.of_new (s := 1) wr #[.int .u32 (j : Int)] 1 rfl (by simp [maxLen]))
      go_wp2_with (at_builtin; refine wpList_append_one' rfl (.tmp 17) (.tmp 21) 50 rfl 24 (.slice none 0 0) 24 Try.underlying50 infoSlU rfl _ j _ rfl Hown1.out (.slice (some ⟨wr.heap.size, 0, none⟩) 1 1) rfl 24 (wr.heap.size + 1) (World.size_alloc _ _).symm rfl (by omega) (by omega) ?_; intro v' w3 hown' hgr hat)
      have Hown' := Lib.hid hown'; clear hown'
      obtain ⟨hb3, hv3⟩ := below_append hb1 hb1.size Hob.out hgr hat
      have hstay : ∀ (u : Value) (y : List Int), RowU (wr.alloc (.cells #[.int .u32 (j : Int)] 40)) u y → RowU w3 u y := fun u y hu => RowU.kept hu Hown1.out (by decide) _ hgr
      have Hel3 := Lib.hid (show Elems RowU w3 (vs ++ [.slice (some ⟨wr.heap.size, 0, none⟩) 1 1]) ((List.range (j + 1)).map fun a : Nat => [(a : Int)]) from by rw [List.range_succ, List.map_append]; exact (Hel1.out.map_ hstay).snoc (hstay _ _ Hnew.out))
      have Hv3 := Lib.hid hv3; clear hv3 hgr hat hstay
      have Hb3 := Lib.hid hb3; clear hb3
      go_wp2
      go_roundg (gk - 1)
      case measure => have := Hgk.out; omega
      case rel => have := Hgk.out; exact ⟨j + 1, _, by omega, by go_num, by omega, Hown'.out, Hel3.out, Hb3.out, Hv3.out⟩
    · obtain rfl : j = N := by omega
      obtain ⟨A, c, hv⟩ := Hown.out.form
      subst hv
      go_wp2
      go_ret
      exact ⟨A, c, rfl, Hown.out.slElems (monoSl (monoInt _)) (Below.refl _ _) (RowU.elems Hel.out), hbw⟩

/-- the inputs of two words, row by row -/
def inps (N i j : Nat) : List (List Int) := ((List.range i).flatMap fun a : Nat => (List.range N).map fun b : Nat => [(a : Int), (b : Int)]) ++ (List.range j).map fun b : Nat => [(i : Int), (b : Int)]
theorem inps_next (N i : Nat) : inps N i N = inps N (i + 1) 0 := by
  unfold inps
  rw [List.range_succ, List.flatMap_append]
  simp
theorem inps_succ (N i j : Nat) : inps N i (j + 1) = inps N i j ++ [[(i : Int), (j : Int)]] := by
  unfold inps
  rw [List.range_succ, List.map_append, List.append_assoc]
  simp
theorem inps_len (N i j : Nat) : (inps N i j).length = i * N + j := by
  unfold inps
  simp only [List.length_append, List.length_flatMap, List.length_map, List.length_range]
  congr 1
  induction i with
  | zero => simp
  | succ i ih => rw [List.range_succ, List.map_append, List.sum_append, ih, Nat.succ_mul]; simp
theorem inputs2 (w : Nat) : K.inputs 2 w = inps (2 ^ w) (2 ^ w) 0 := by
  apply List.ext_getElem?
  intro i
  have hl : (inps (2 ^ w) (2 ^ w) 0).length = K.size 2 w := by rw [inps_len]; unfold K.size; rw [Nat.two_mul, Nat.pow_add]; omega
  by_cases hi : i < K.size 2 w
  · rw [K.inputs_at hi]
    have hp : 0 < 2 ^ w := Nat.two_pow_pos w
    have key : ∀ q r : Nat, q < 2 ^ w → r < 2 ^ w → (inps (2 ^ w) (2 ^ w) 0)[q * 2 ^ w + r]? = some [(q : Int), (r : Int)] := by
      intro q r hq hr
      have e : ∀ m, q + 1 ≤ m → ∃ l, inps (2 ^ w) m 0 = inps (2 ^ w) q (r + 1) ++ l := by
        have e1 : ∀ d, ∃ l, inps (2 ^ w) q (r + 1 + d) = inps (2 ^ w) q (r + 1) ++ l := by
          intro d
          induction d with
          | zero => exact ⟨[], by simp⟩
          | succ d ih =>
            obtain ⟨l, hl⟩ := ih
            exact ⟨l ++ [[(q : Int), ((r + 1 + d : Nat) : Int)]], by rw [← Nat.add_assoc, inps_succ, hl, List.append_assoc]⟩
        have e2 : ∃ l, inps (2 ^ w) (q + 1) 0 = inps (2 ^ w) q (r + 1) ++ l := by
          rw [← inps_next]
          obtain ⟨l, hl⟩ := e1 (2 ^ w - (r + 1))
          rw [show r + 1 + (2 ^ w - (r + 1)) = 2 ^ w by omega] at hl
          exact ⟨l, hl⟩
        intro m hm
        obtain ⟨d, rfl⟩ : ∃ d, m = q + 1 + d := ⟨m - (q + 1), by omega⟩
        clear hm
        induction d with
        | zero => exact e2
        | succ d ih =>
          obtain ⟨l, hl⟩ := ih
          refine ⟨l ++ (List.range (2 ^ w)).map fun b : Nat => [((q + 1 + d : Nat) : Int), (b : Int)], ?_⟩
          rw [← Nat.add_assoc, ← inps_next, ← List.append_assoc, ← hl]
          unfold inps
          simp
      obtain ⟨l, hl'⟩ := e (2 ^ w) (by omega)
      have hlen := inps_len (2 ^ w) q r
      rw [hl', List.getElem?_append_left (by rw [inps_succ, List.length_append, hlen]; simp), inps_succ, List.getElem?_append_right (by omega), hlen]
      simp
    have hs : K.size 2 w = 2 ^ w * 2 ^ w := by unfold K.size; rw [Nat.two_mul, Nat.pow_add]
    have hq : i / 2 ^ w < 2 ^ w := by rw [Nat.div_lt_iff_lt_mul hp]; omega
    have hr : i % 2 ^ w < 2 ^ w := Nat.mod_lt _ hp
    have := key _ _ hq hr
    rw [show i / 2 ^ w * 2 ^ w + i % 2 ^ w = i by rw [Nat.mul_comm]; exact Nat.div_add_mod i _] at this
    rw [this]
    rfl
  · rw [List.getElem?_eq_none (by rw [K.inputs_len]; omega), List.getElem?_eq_none (by omega)]

set_option maxRecDepth 100000 in
set_option maxHeartbeats 4000000 in
theorem rinputs2_any (w : Nat) (hw : w = 1 ∨ w = 2 ∨ w = 3) (W : World) :
    Calls Try.prog 19 #[.int .i64 2, .int .i64 w] W fun e w' => ∃ A c, e = .returned (.slice A (K.size 2 w) c) ∧ SlAt (SlR (IntR .u32)) w' A (K.size 2 w) (K.inputs 2 w) ∧ Below W.heap.size W w' := by
  obtain ⟨p0, p1, p2⟩ := pow_facts hw
  have hsz : K.size 2 w = 2 ^ w * 2 ^ w := by unfold K.size; rw [Nat.two_mul, Nat.pow_add]
  rw [hsz, inputs2]
  have hw3 : w ≤ 3 := by omega
  clear hw hsz
  obtain ⟨N, hN⟩ : ∃ N, N = 2 ^ w := ⟨_, rfl⟩
  rw [← hN] at p0 p1 p2 ⊢
  clear hN
  have hbd : ∀ i j, i ≤ N → j ≤ N → i * N + j ≤ 100 := by
    intro i j hi hj
    have : i * N ≤ 8 * 8 := Nat.mul_le_mul (by omega) p1
    omega
  have Hbd := Lib.hid hbd; clear hbd
  go_enter Try.func19, Try.ntmps19
  go_wp2
  go_loopg [5, 6] (N + 1) (fun g v i wr => ∃ (q : Nat) (vs : List Value), q ≤ N ∧ i = .int .i64 (q : Int) ∧ g + q = N + 1 ∧ OwnAt wr 24 1 v (inps N q 0).length vs ∧ Elems RowU wr vs (inps N q 0) ∧ Below W.heap.size W wr ∧ (∀ g, v.ownBlock = some g → W.heap.size ≤ g))
  case atStart => exact ⟨0, [], Nat.zero_le _, rfl, rfl, OwnAt.nil_ _ _ _, Elems.nil_, Below.refl _ _, fun g hg => by simp [Value.ownBlock] at hg⟩
  case round =>
    obtain ⟨q, vs, hq, rfl, hgk, hown, hel, hbw, hob⟩ := hrel
    have Hgk := Lib.hid hgk; clear hgk
    have Hown := Lib.hid hown; clear hown
    have Hel := Lib.hid hel; clear hel
    have Hob := Lib.hid hob; clear hob
    obtain ⟨gO, hgO⟩ : ∃ g, g = gk := ⟨_, rfl⟩
    subst hgO
    by_cases hlq : q < N
    · go_wp2
      (try simp only [p0])
      go_loopg [5, 7] (N + 1) (fun g v i wr => ∃ (j : Nat) (vs : List Value), j ≤ N ∧ i = .int .i64 (j : Int) ∧ g + j = N + 1 ∧ OwnAt wr 24 1 v (inps N q j).length vs ∧ Elems RowU wr vs (inps N q j) ∧ Below W.heap.size W wr ∧ (∀ g, v.ownBlock = some g → W.heap.size ≤ g))
      case atStart => exact ⟨0, vs, Nat.zero_le _, rfl, rfl, Hown.out, Hel.out, hbw, Hob.out⟩
      case round =>
        clear Hown Hel Hob hbw vs
        obtain ⟨j, vs, hj, rfl, hgk, hown, hel, hbw, hob⟩ := hrel
        have Hgk2 := Lib.hid hgk; clear hgk
        have Hown := Lib.hid hown; clear hown
        have Hel := Lib.hid hel; clear hel
        have Hob := Lib.hid hob; clear hob
        have hlen : (inps N q j).length ≤ 100 := by rw [inps_len]; exact Hbd.out q j hq hj
        by_cases hlt : j < N
        · have hb1 : Below W.heap.size W (wr.alloc (.cells #[.int .u32 (q : Int), .int .u32 (j : Int)] 40)) := hbw.alloc hbw.size _
          have Hown1 := Lib.hid (Hown.out.alloc (.cells #[.int .u32 (q : Int), .int .u32 (j : Int)] 40))
          have Hel1 := Lib.hid (show Elems RowU (wr.alloc (.cells #[.int .u32 (q : Int), .int .u32 (j : Int)] 40)) vs _ from Hel.out.map_ fun u x h => RowU.alloc h _)
          have Hnew := Lib.hid (show RowU (wr.alloc (.cells #[.int .u32 (q : Int), .int .u32 (j : Int)] 40)) (.slice (some ⟨wr.heap.size, 0, none⟩) 2 2) [(q : Int), (j : Int)] from OwnAt.of_new (s := 1) wr #[.int .u32 (q : Int), .int .u32 (j : Int)] 2 rfl (by simp [maxLen]))
          go_wp2_with (at_builtin; refine wpList_append_one' rfl (.tmp 30) (.tmp 36) 50 rfl 24 (.slice none 0 0) 24 Try.underlying50 infoSlU rfl _ _ _ rfl Hown1.out (.slice (some ⟨wr.heap.size, 0, none⟩) 2 2) rfl 24 (wr.heap.size + 1) (World.size_alloc _ _).symm rfl (by omega) (by omega) ?_; intro v' w3 hown' hgr hat)
          have e1 : (inps N q j).length + 1 = (inps N q (j + 1)).length := by rw [inps_succ]; simp
          rw [e1] at hown'
          have Hown' := Lib.hid hown'; clear hown' e1
          obtain ⟨hb3, hv3⟩ := below_append hb1 hb1.size Hob.out hgr hat
          have hstay : ∀ (u : Value) (y : List Int), RowU (wr.alloc (.cells #[.int .u32 (q : Int), .int .u32 (j : Int)] 40)) u y → RowU w3 u y := fun u y hu => RowU.kept hu Hown1.out (by decide) _ hgr
          have Hel3 := Lib.hid (show Elems RowU w3 (vs ++ [.slice (some ⟨wr.heap.size, 0, none⟩) 2 2]) (inps N q (j + 1)) from by rw [inps_succ]; exact (Hel1.out.map_ hstay).snoc (hstay _ _ Hnew.out))
          have Hv3 := Lib.hid hv3; clear hv3 hgr hat hstay
          have Hb3 := Lib.hid hb3; clear hb3
          go_wp2
          go_roundg (gk - 1)
          case measure => have := Hgk2.out; omega
          case rel => have := Hgk2.out; exact ⟨j + 1, _, by omega, by go_num, by omega, Hown'.out, Hel3.out, Hb3.out, Hv3.out⟩
        · obtain rfl : j = N := by omega
          have hnx := inps_next j q
          have Hown2 := Lib.hid (show OwnAt wr 24 1 _ (inps j (q + 1) 0).length vs from by rw [← hnx]; exact Hown.out)
          have Hel2 := Lib.hid (show Elems RowU wr vs (inps j (q + 1) 0) from by rw [← hnx]; exact Hel.out)
          clear Hown Hel hnx
          go_wp2
          go_roundg (gO - 1)
          case measure => have := Hgk.out; omega
          case rel => have := Hgk.out; exact ⟨q + 1, vs, by omega, by go_num, by omega, Hown2.out, Hel2.out, hbw, Hob.out⟩
    · obtain rfl : q = N := by omega
      obtain ⟨A, c, hv⟩ := Hown.out.form
      subst hv
      have hl := inps_len q q 0
      go_wp2
      go_ret
      refine ⟨A, c, by rw [hl]; rfl, ?_, hbw⟩
      have := Hown.out.slElems (monoSl (monoInt _)) (Below.refl _ _) (RowU.elems Hel.out)
      rw [hl] at this
      exact this

theorem rinputs_any (k w : Nat) (hk : k = 1 ∨ k = 2) (hw : w = 1 ∨ w = 2 ∨ w = 3) (W : World) :
    Calls Try.prog 19 #[.int .i64 k, .int .i64 w] W fun e w' => ∃ A c, e = .returned (.slice A (K.size k w) c) ∧ SlAt (SlR (IntR .u32)) w' A (K.size k w) (K.inputs k w) ∧ Below W.heap.size W w' := by
  rcases hk with rfl | rfl
  · exact rinputs1_any w hw W
  · exact rinputs2_any w hw W
end Go.Proofs.Ytableoihgkmbjaa
