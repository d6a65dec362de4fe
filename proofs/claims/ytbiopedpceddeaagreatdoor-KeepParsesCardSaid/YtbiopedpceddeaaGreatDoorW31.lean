/- Merged: C4KF2, C4PK9, C4RF1a, C4KF3. -/
import Derived.Test.YtbiopedpceddeaaGreatDoorW30
import Derived.Test.YtbiopedpceddeaaGreatDoorW19
import Derived.Test.YtbiopedpceddeaaGreatDoorW26
import Derived.Test.YtbiopedpceddeaaGreatDoorW16
import Derived.Test.YtbiopedpceddeaaGreatDoorW17
import Derived.Test.YtbiopedpceddeaaGreatDoorW14
set_option linter.unusedVariables false
set_option linter.unusedSimpArgs false
section
namespace Go.Proofs.YtbiopedpceddeaaGreatDoor
open Go.RowKit Go.Lib
set_option linter.unusedVariables false
set_option linter.unusedSimpArgs false
namespace KT
/-- a word in memory -/
def StrR (_ : World) (u : Value) (x : List UInt8) : Prop := u = .string ⟨x.toArray⟩
theorem monoStr : MonoR StrR := fun _ _ _ _ _ h => h
/-- the variable that strings.Index reads -/
def MLen (W : World) : Prop := ∃ m : Int, W.cell? ⟨2, 0, none⟩ = some (.int .i64 m)
theorem MLen.below {W W' : World} (h : MLen W) (hb : Below W.heap.size W W') : MLen W' := by
  obtain ⟨m, h1⟩ := h
  obtain ⟨cs, ty, f, hc⟩ := cells_of_cell h1
  exact ⟨m, (hb.cell (p := ⟨2, 0, none⟩) (Array.getElem?_eq_some_iff.1 hc).1).trans h1⟩
theorem one_size (c : UInt8) : 1 ≤ (⟨#[c]⟩ : ByteArray).size := Nat.le_refl 1
theorem ss_of (l : List ByteArray) : l.map Value.string = ss (l.map (·.data.toList)) := by
  unfold ss
  rw [List.map_map]
  exact List.map_congr_left fun x _ => by simp
/-- a row of words reads as they -/
theorem sl_words {w : World} {g n : Nat} {ty : TypeId} {cells : Array Value} {xs : List (List UInt8)} (hr : w.heap[g]? = some (.cells cells ty (0, 0))) (hl : xs.length = n) (hn : n ≤ 9223372036854775807) (hc : ∀ (j : Nat) (u : Value), (ss xs)[j]? = some u → cells[j]? = some u) : SlAt StrR w (some ⟨g, 0, none⟩) n xs := by
  refine ⟨hl, hn, fun k x hx => ⟨g, 0, .string ⟨x.toArray⟩, rfl, (Array.getElem?_eq_some_iff.1 hr).1, ?_, rfl⟩⟩
  rw [cell_of_row _ _ _ _ _ (0, 0) hr]
  rw [Nat.zero_add]
  exact hc k _ (by simp [ss, hx])
theorem Split_any {s : List UInt8} {c : UInt8} (hs : s.length ≤ 1000000000) {W : World} (hM : MLen W) :
    Calls Tryz.prog 75 #[.string ⟨s.toArray⟩, .string ⟨#[c]⟩] W fun e w' => e = .returned (.slice (some ⟨W.heap.size, 0, none⟩) (split s [c]).length (split s [c]).length) ∧ SlAt StrR w' (some ⟨W.heap.size, 0, none⟩) (split s [c]).length (split s [c]) ∧ Below W.heap.size W w' := by
  obtain ⟨m, hm⟩ := hM
  have hsz : (⟨s.toArray⟩ : ByteArray).size = s.length := by show s.toArray.size = _; simp
  refine (Tryz.strings_Split ⟨s.toArray⟩ ⟨#[c]⟩ m W (by rw [hsz]; omega) hm (one_size c)).mono ?_
  rintro e w' ⟨rfl, rfl⟩
  have h1 : (Lib.splitB ⟨#[c]⟩ 0 (countB ⟨s.toArray⟩ ⟨#[c]⟩) ⟨s.toArray⟩).map (·.data.toList) = split s [c] := by
    rw [Lib.splitB_data]
    simp [split, countB]
  have h2 : (split s [c]).length = countB ⟨s.toArray⟩ ⟨#[c]⟩ + 1 := by
    rw [← h1, List.length_map]
    exact Lib.splitB_all _ (one_size c) 0 _ _ rfl
  rw [ss_of, h1, ← h2]
  have h3 := countB_le ⟨#[c]⟩ (one_size c) _ ⟨s.toArray⟩ (Nat.le_refl _)
  refine ⟨rfl, sl_words (heap_alloc_new W _) rfl (by omega) fun j u hu => by simpa using hu, (Below.refl _ _).alloc (Nat.le_refl _) _⟩
/-- Split, its words in a block of their own -/
theorem Split_row {s : List UInt8} {c : UInt8} (hs : s.length ≤ 1000000000) {W : World} (hM : MLen W) :
    Calls Tryz.prog 75 #[.string ⟨s.toArray⟩, .string ⟨#[c]⟩] W fun e w' => e = .returned (.slice (some ⟨W.heap.size, 0, none⟩) (split s [c]).length (split s [c]).length) ∧ w'.heap[W.heap.size]? = some (.cells (ss (split s [c])).toArray 9 (0, 0)) ∧ Below W.heap.size W w' := by
  obtain ⟨m, hm⟩ := hM
  have hsz : (⟨s.toArray⟩ : ByteArray).size = s.length := by show s.toArray.size = _; simp
  refine (Tryz.strings_Split ⟨s.toArray⟩ ⟨#[c]⟩ m W (by rw [hsz]; omega) hm (one_size c)).mono ?_
  rintro e w' ⟨rfl, rfl⟩
  have h1 : (Lib.splitB ⟨#[c]⟩ 0 (countB ⟨s.toArray⟩ ⟨#[c]⟩) ⟨s.toArray⟩).map (·.data.toList) = split s [c] := by
    rw [Lib.splitB_data]
    simp [split, countB]
  have h2 : (split s [c]).length = countB ⟨s.toArray⟩ ⟨#[c]⟩ + 1 := by
    rw [← h1, List.length_map]
    exact Lib.splitB_all _ (one_size c) 0 _ _ rfl
  rw [ss_of, h1, ← h2]
  exact ⟨rfl, heap_alloc_new W _, (Below.refl _ _).alloc (Nat.le_refl _) _⟩
theorem split_size {s : List UInt8} {c : UInt8} : (split s [c]).length ≤ s.length + 1 := by
  have h1 : (Lib.splitB ⟨#[c]⟩ 0 (countB ⟨s.toArray⟩ ⟨#[c]⟩) ⟨s.toArray⟩).map (·.data.toList) = split s [c] := by
    rw [Lib.splitB_data]
    simp [split, countB]
  have h2 := Lib.splitB_length_le ⟨#[c]⟩ 0 (countB ⟨s.toArray⟩ ⟨#[c]⟩) ⟨s.toArray⟩
  have h3 := countB_le ⟨#[c]⟩ (one_size c) _ ⟨s.toArray⟩ (Nat.le_refl _)
  have hsz : (⟨s.toArray⟩ : ByteArray).size = s.length := by show s.toArray.size = _; simp
  rw [← h1, List.length_map]
  omega
theorem SplitN_any {s : List UInt8} {c : UInt8} {n : Nat} (hs : s.length ≤ 1000000000) (hn : 1 ≤ n) (hn2 : n ≤ 1000) {W : World} (hM : MLen W) :
    Calls Tryz.prog 138 #[.string ⟨s.toArray⟩, .string ⟨#[c]⟩, .int .i64 (n : Int)] W fun e w' => ∃ cc, e = .returned (.slice (some ⟨W.heap.size, 0, none⟩) (splitN s [c] n).length cc) ∧ SlAt StrR w' (some ⟨W.heap.size, 0, none⟩) (splitN s [c] n).length (splitN s [c] n) ∧ Below W.heap.size W w' := by
  obtain ⟨m, hm⟩ := hM
  have hsz : (⟨s.toArray⟩ : ByteArray).size = s.length := by show s.toArray.size = _; simp
  refine (Tryz.strings_SplitN ⟨s.toArray⟩ ⟨#[c]⟩ n m W (by rw [hsz]; omega) hm (one_size c) hn (by omega)).mono ?_
  rintro e w' ⟨rfl, rfl⟩
  have h1 : (Lib.splitB ⟨#[c]⟩ 0 (min n ((⟨s.toArray⟩ : ByteArray).size + 1) - 1) ⟨s.toArray⟩).map (·.data.toList) = splitN s [c] n := by
    rw [Lib.splitB_data, hsz]
    simp [splitN]
  have h2 := Lib.splitB_length_le ⟨#[c]⟩ 0 (min n ((⟨s.toArray⟩ : ByteArray).size + 1) - 1) ⟨s.toArray⟩
  have h3 : (Lib.splitB ⟨#[c]⟩ 0 (min n ((⟨s.toArray⟩ : ByteArray).size + 1) - 1) ⟨s.toArray⟩).length = (splitN s [c] n).length := by rw [← h1, List.length_map]
  rw [h3] at h2
  refine ⟨_, by rw [h3], sl_words (heap_alloc_new W _) rfl (by omega) fun j u hu => ?_, (Below.refl _ _).alloc (Nat.le_refl _) _⟩
  unfold cellsOf
  rw [ss_of, h1]
  have hj := (List.getElem?_eq_some_iff.1 hu).1
  rw [List.getElem?_toArray, List.getElem?_append_left hj]
  exact hu
theorem Cut_any {s : List UInt8} {c : UInt8} (hs : s.length ≤ 1000000000) {W : World} (hM : MLen W) :
    Calls Tryz.prog 146 #[.string ⟨s.toArray⟩, .string ⟨#[c]⟩] W fun e w' => e = .returned (.tuple #[.string ⟨(cut s [c]).1.toArray⟩, .string ⟨(cut s [c]).2.1.toArray⟩, .bool (cut s [c]).2.2]) ∧ Dr W w' := by
  obtain ⟨m, hm⟩ := hM
  have hsz : (⟨s.toArray⟩ : ByteArray).size = s.length := by show s.toArray.size = _; simp
  refine (Tryz.strings_Cut ⟨s.toArray⟩ ⟨#[c]⟩ m W (by rw [hsz]; omega) hm).mono ?_
  rintro e w' ⟨rfl, n, rfl⟩
  exact ⟨by simp, n, rfl⟩
end KT
end Go.Proofs.YtbiopedpceddeaaGreatDoor
end
section
namespace Go.Proofs.YtbiopedpceddeaaGreatDoor
set_option linter.unusedVariables false
set_option linter.unusedSimpArgs false
namespace KT
/-- the new number of a number; -1 if it is not met -/
def ix (s : List Int) (i : Int) : Int := if i ∈ s then ((s.idxOf i : Nat) : Int) else -1
end KT
end Go.Proofs.YtbiopedpceddeaaGreatDoor
end
section
namespace Go.Proofs.YtbiopedpceddeaaGreatDoor
open Go.RowKit
set_option linter.unusedVariables false
set_option linter.unusedSimpArgs false
namespace RF
/-- another block of nodes turns -/
theorem ownR_otherN {B g : Nat} {w w' : World} {v : Value} {l : List T.Nd} {cur : Array Value} {fr : Nat × Nat} (h : OwnR (NdF B) B w v l) (hg : w.grownBy w' (some g)) (hr : w.heap[g]? = some (.cells cur 62 fr)) (hne : v.ownBlock ≠ some g) : OwnR (NdF B) B w' v l := by
  obtain ⟨cells, h1, h2, h3⟩ := h
  refine ⟨cells, h1.same fun g' hg' => ?_, fun k x hx => (h2 k x hx).other' hg (fun g2 cur2 T fr2 e hc => ?_), h3⟩
  · rcases h1.2 with ⟨rfl, _⟩ | ⟨g2, off, cap, cur', rfl, hcur, _⟩
    · simp [Value.ownBlock] at hg'
    · refine hg.block _ ?_ (fun e => hne (by injection e with e; rw [hg', e]))
      simp [Value.ownBlock] at hg'
      subst hg'
      exact (Array.getElem?_eq_some_iff.1 hcur).1
  · injection e with e
    subst e
    rw [hr] at hc
    injection hc with hc
    injection hc with _ hc _
    exact hc.symm

theorem row_ne {w : World} {a b : Nat} {c1 c2 : Array Value} {T1 T2 : TypeId} {f1 f2 : Nat × Nat} (h1 : w.heap[a]? = some (.cells c1 T1 f1)) (h2 : w.heap[b]? = some (.cells c2 T2 f2)) (hT : T1 ≠ T2) : a ≠ b := fun e => by
  subst e
  rw [h1] at h2
  injection h2 with h2
  injection h2 with _ h2 _
  exact hT h2
theorem set_block {w : World} {g i b : Nat} {u : Value} (h : b ≠ g) (hb : b < w.heap.size) : (w.setCell ⟨g, i, none⟩ u).heap[b]? = w.heap[b]? :=
  (setCell_grown w g i u).block _ hb (fun e => h (by injection e with e))
theorem infoCd : (Tryz.prog.info? 88).map (fun i => (i.zero, i.size, i.bytes)) = some (some (.agg #[.int .i64 0, .int .i64 0, .int .u32 0]), 3, 24) := by kernel_rfl
/-! the tables -/
theorem ownC_snoc {B : Nat} {w' : World} {v' : Value} {cs : List R.Cd} {us : List Value} {y : R.Cd} (hl : us.length = cs.length * 3) (h2 : ∀ (k : Nat) (x : R.Cd), cs[k]? = some x → CdR w' ((us.drop (k * 3)).take 3) x) (hown : OwnAt w' 88 3 v' (cs.length + 1) (us ++ cdC y)) (hy : 0 ≤ y.imm ∧ y.imm < 4294967296) (hB : ∀ g, v'.ownBlock = some g → B ≤ g) : OwnC B w' v' (cs ++ [y]) := by
  refine ⟨us ++ cdC y, by rw [List.length_append]; exact hown, fun k x hx => ?_, hB⟩
  have hk := (List.getElem?_eq_some_iff.1 hx).1
  rw [List.length_append] at hk
  simp only [List.length_cons, List.length_nil] at hk
  by_cases e : k < cs.length
  · rw [List.getElem?_append_left e] at hx
    rw [List.drop_append_of_le_length (by omega), List.take_append_of_le_length (by rw [List.length_drop]; omega)]
    exact h2 k x hx
  · obtain rfl : k = cs.length := by omega
    rw [List.getElem?_append_right (Nat.le_refl _), Nat.sub_self] at hx
    simp only [List.getElem?_cons_zero, Option.some.injEq] at hx
    subst hx
    rw [← hl, List.drop_left]
    exact ⟨rfl, hy.1, hy.2⟩
theorem ownC_ty {B g : Nat} {w : World} {v : Value} {cs : List R.Cd} (h : OwnC B w v cs) (hg : v.ownBlock = some g) : ∃ cur, w.heap[g]? = some (.cells cur 88 (0, 0)) := by
  obtain ⟨us, h1, _⟩ := h
  rcases h1.2 with ⟨rfl, _⟩ | ⟨g', off, cap, cur, rfl, hcur, _⟩
  · simp [Value.ownBlock] at hg
  · simp [Value.ownBlock] at hg
    subst hg
    exact ⟨cur, hcur⟩
end RF
end Go.Proofs.YtbiopedpceddeaaGreatDoor
end
section
namespace Go.Proofs.YtbiopedpceddeaaGreatDoor
open Go.RowKit Go.Lib
set_option linter.unusedVariables false
set_option linter.unusedSimpArgs false
namespace KT
/-- 'append(out, x)' of one node: the translation lays x in a new block first -/
theorem wpList_append_nodeR3 {R : World → List Value → T.Nd → Prop} {B : Nat} (hR : NdRel B R) {w : World} {ops : Array Oper} {rest : List Oper} {o : Oper} {a : Act} {Q : Exit → Act → World → Prop} (hgd : o.guard = none) (sx x : Operand)
    (ho : o.op = .call { callee := .builtin .append, args := #[sx, x], argTypes := #[22, 22] })
    (v : Value) (nds : List T.Nd) (hs : a.eval sx = v) (hown : OwnR R B w v nds) (us : List Value) (nd : T.Nd) (hnd : R w us nd) (p : Nat) (hp : p = w.heap.size)
    (hx : a.eval x = .slice (some ⟨p, 0, none⟩) 1 1) (hn : nds.length ≤ 900000) (hB : B ≤ w.heap.size)
    (h : ∀ v' w', OwnR R B w' v' (nds ++ [nd]) → (w.alloc (.cells us.toArray 62)).grownBy w' v.ownBlock → (v'.ownBlock = v.ownBlock ∨ v'.ownBlock = some (w.heap.size + 1)) → wpList Tryz.prog ops Q rest (a.put o.dst v') w') :
    wpList Tryz.prog ops Q (o :: rest) a (w.alloc (.cells us.toArray 62)) := by
  subst hp
  have hl : us.length = 5 := by obtain ⟨A, c, rfl, _⟩ := hR.form hnd; rfl
  have h1' : ∀ u ∈ us, u.oneCell' = true := by obtain ⟨A, c, rfl, _⟩ := hR.form hnd; exact ndC_one _ _ _
  have hba : Below w.heap.size w (w.alloc (.cells us.toArray 62)) := (Below.refl _ _).alloc (Nat.le_refl _) _
  obtain ⟨cells, h1, h2, h3⟩ := id hown
  have hrow := (hown.below hR hba).row
  have hcl := h1.1
  refine wpList_append_src _ hgd sx x 22 ho 62 _ 5 56 Tryz.underlying22 infoNode rfl (by decide) v nds.length cells hs (h1.below hba h1.lt) _ 1 1 us hx (by rw [hl]) (src_new w us 62) h1' (by omega) (by decide) ?_
  intro v' w' hown' hgr hat
  refine h v' w' ⟨cells ++ us, by rw [List.length_append]; exact hown', ?_, ?_⟩ hgr (by simpa using hat)
  · intro k y hy
    rcases Nat.lt_or_ge k nds.length with hk | hk
    · rw [List.getElem?_append_left hk] at hy
      have e : ((cells ++ us).drop (k * 5)).take 5 = (cells.drop (k * 5)).take 5 := by
        rw [List.drop_append_of_le_length (by omega), List.take_append_of_le_length (by rw [List.length_drop]; omega)]
      rw [e]
      exact hR.grown (hR.below (h2 k y hy) hba) hgr hrow
    · rw [List.getElem?_append_right hk] at hy
      have hk0 : k = nds.length := by
        rcases Nat.eq_zero_or_pos (k - nds.length) with e | e
        · omega
        · rw [List.getElem?_eq_none (by simp; omega)] at hy; cases hy
      subst hk0
      simp at hy
      subst hy
      have e : ((cells ++ us).drop (nds.length * 5)).take 5 = us := by
        rw [← hcl, List.drop_left, List.take_of_length_le (by omega)]
      rw [e]
      exact hR.grown (hR.below hnd hba) hgr hrow
  · intro g hg
    rcases hat with e | e
    · exact h3 g (by rw [← e]; exact hg)
    · rw [e] at hg
      simp at hg
      omega

theorem ownR_lt {B : Nat} {w : World} {v : Value} {l : List T.Nd} (h : OwnR (NdF B) B w v l) : ∀ g, v.ownBlock = some g → g < w.heap.size := by
  obtain ⟨cells, h1, _⟩ := h
  exact h1.lt
/-- another block of nodes turns, or none -/
theorem ownR_kept {B : Nat} {w w' : World} {v : Value} {l : List T.Nd} {row : Option Nat} (h : OwnR (NdF B) B w v l) (hg : w.grownBy w' row) (hr : ∀ g, row = some g → ∃ cur fr, w.heap[g]? = some (.cells cur 62 fr)) (hne : ∀ g, row = some g → v.ownBlock ≠ some g) : OwnR (NdF B) B w' v l := by
  cases row with
  | none => exact h.other hg fun _ _ _ _ e => by cases e
  | some g =>
    obtain ⟨cur, fr, hc⟩ := hr g rfl
    exact RF.ownR_otherN h hg hc (hne g rfl)
theorem ty_of {w : World} {g : Nat} {c1 c2 : Array Value} {T1 T2 : TypeId} {f1 f2 : Nat × Nat} (h1 : w.heap[g]? = some (.cells c1 T1 f1)) (h2 : w.heap[g]? = some (.cells c2 T2 f2)) : T1 = T2 := by
  rw [h1] at h2
  injection h2 with h2
  injection h2

/-- a rule that is read, in block gr -/
structure RdSt (B gr : Nat) (vl vr vp : Value) (q : R.Rl) (W w : World) : Prop where
  lo : B ≤ gr
  row : w.heap[gr]? = some (.cells #[vl, vr, vp] 33 (0, 0))
  own : OwnRl B w vl vr vp q
  ne : ∀ g, vl.ownBlock = some g → vr.ownBlock ≠ some g
  b : Below B W w
/-- blocks of other types stay -/
def Fra (gr : Nat) (w w' : World) : Prop := ∀ i, i < w.heap.size → i ≠ gr → (∀ cur T fr, w.heap[i]? = some (.cells cur T fr) → T ≠ 62 ∧ T ≠ 88) → w'.heap[i]? = w.heap[i]?
section
variable {B gr : Nat} {vl vr vp v' : Value} {q : R.Rl} {W w wa w' : World}
theorem RdSt.lt (h : RdSt B gr vl vr vp q W w) : gr < w.heap.size := (Array.getElem?_eq_some_iff.1 h.row).1
theorem RdSt.below (h : RdSt B gr vl vr vp q W w) (hB : B ≤ w.heap.size) (hb : Below w.heap.size w w') : RdSt B gr vl vr vp q W w' :=
  ⟨h.lo, (hb.block _ h.lt).trans h.row, h.own.below hb, h.ne, h.b.trans (hb.mono hB)⟩
theorem rule_ne {g : Nat} {c1 cur : Array Value} {T : TypeId} {fr : Nat × Nat} (e : some gr = some g) (h : w.heap[gr]? = some (.cells c1 33 (0, 0))) (hc : w.heap[g]? = some (.cells cur T fr)) : T = 33 := by
  injection e with e
  subst e
  exact ty_of hc h
/-- one more node on the left -/
theorem RdSt.left (h : RdSt B gr vl vr vp q W w) {x : T.Nd} (hB : B ≤ w.heap.size) (hba : Below w.heap.size w wa) (hown : OwnR (NdF B) B w' v' (q.left ++ [x])) (hgr : wa.grownBy w' vl.ownBlock) (hat : v'.ownBlock = vl.ownBlock ∨ ∃ n, v'.ownBlock = some n ∧ w.heap.size ≤ n) :
    w'.heap[gr]? = some (.cells #[vl, vr, vp] 33 (0, 0)) ∧ RdSt B gr v' vr vp { q with left := q.left ++ [x] } W (w'.setCell ⟨gr, 0, none⟩ v') ∧ Fra gr w (w'.setCell ⟨gr, 0, none⟩ v') := by
  have ha := h.below hB hba
  have hr := fun g e => (ha.own.ol.row g e).2
  have stay : ∀ i, i < wa.heap.size → (∀ cur T fr, wa.heap[i]? = some (.cells cur T fr) → T ≠ 62) → w'.heap[i]? = wa.heap[i]? := fun i hi hT => hgr.block i hi fun e => by
    obtain ⟨cur, fr, hc⟩ := hr i e.symm
    exact hT cur _ fr hc rfl
  have hrow := (stay gr ha.lt fun cur T fr hc => by rw [rule_ne rfl ha.row hc]; decide).trans ha.row
  have hs := setCell_grown w' gr 0 v'
  have hnew : (w'.setCell ⟨gr, 0, none⟩ v').heap[gr]? = some (.cells #[v', vr, vp] 33 (0, 0)) := by
    have := heap_setCell_same w' gr 0 _ _ v' hrow
    rw [this]
    rfl
  refine ⟨hrow, ⟨h.lo, hnew, ⟨hown.other hs fun g cur T fr e hc => ?_, (ownR_kept ha.own.or_ hgr hr h.ne).other hs fun g cur T fr e hc => ?_, (ha.own.op.other hgr fun g cur T fr e hc => ?_).other hs fun g cur T fr e hc => ?_⟩, fun g hg => ?_, ?_⟩, fun i hi hne hT => ?_⟩
  · rw [rule_ne e hrow hc]; exact ⟨by decide, by decide⟩
  · rw [rule_ne e hrow hc]; exact ⟨by decide, by decide⟩
  · obtain ⟨cur', fr', hc'⟩ := hr g e
    rw [ty_of hc hc']; decide
  · rw [rule_ne e hrow hc]; decide
  · rcases hat with e | ⟨n, e, hn⟩
    · exact h.ne g (e ▸ hg)
    · rw [e] at hg
      injection hg with hg
      intro e2
      have := ownR_lt h.own.or_ g e2
      omega
  · exact (ha.b.grown hgr (Nat.le_trans hB hba.size) fun g e => (ha.own.ol.row g e).1).setCell (p := ⟨gr, 0, none⟩) h.lo _
  · have h1 := hba.block i hi
    have hi2 := Nat.lt_of_lt_of_le hi hba.size
    rw [RF.set_block hne (Nat.lt_of_lt_of_le hi2 hgr.size), stay i hi2 fun cur T fr hc => (hT cur T fr (h1 ▸ hc)).1, h1]
/-- one more node on the right -/
theorem RdSt.right (h : RdSt B gr vl vr vp q W w) {x : T.Nd} (hB : B ≤ w.heap.size) (hba : Below w.heap.size w wa) (hown : OwnR (NdF B) B w' v' (q.right ++ [x])) (hgr : wa.grownBy w' vr.ownBlock) (hat : v'.ownBlock = vr.ownBlock ∨ ∃ n, v'.ownBlock = some n ∧ w.heap.size ≤ n) :
    w'.heap[gr]? = some (.cells #[vl, vr, vp] 33 (0, 0)) ∧ RdSt B gr vl v' vp { q with right := q.right ++ [x] } W (w'.setCell ⟨gr, 1, none⟩ v') ∧ Fra gr w (w'.setCell ⟨gr, 1, none⟩ v') := by
  have ha := h.below hB hba
  have hr := fun g e => (ha.own.or_.row g e).2
  have stay : ∀ i, i < wa.heap.size → (∀ cur T fr, wa.heap[i]? = some (.cells cur T fr) → T ≠ 62) → w'.heap[i]? = wa.heap[i]? := fun i hi hT => hgr.block i hi fun e => by
    obtain ⟨cur, fr, hc⟩ := hr i e.symm
    exact hT cur _ fr hc rfl
  have hrow := (stay gr ha.lt fun cur T fr hc => by rw [rule_ne rfl ha.row hc]; decide).trans ha.row
  have hs := setCell_grown w' gr 1 v'
  have hnew : (w'.setCell ⟨gr, 1, none⟩ v').heap[gr]? = some (.cells #[vl, v', vp] 33 (0, 0)) := by
    have := heap_setCell_same w' gr 1 _ _ v' hrow
    rw [this]
    rfl
  refine ⟨hrow, ⟨h.lo, hnew, ⟨(ownR_kept ha.own.ol hgr hr fun g e e2 => h.ne g e2 e).other hs fun g cur T fr e hc => ?_, hown.other hs fun g cur T fr e hc => ?_, (ha.own.op.other hgr fun g cur T fr e hc => ?_).other hs fun g cur T fr e hc => ?_⟩, fun g hg => ?_, ?_⟩, fun i hi hne hT => ?_⟩
  · rw [rule_ne e hrow hc]; exact ⟨by decide, by decide⟩
  · rw [rule_ne e hrow hc]; exact ⟨by decide, by decide⟩
  · obtain ⟨cur', fr', hc'⟩ := hr g e
    rw [ty_of hc hc']; decide
  · rw [rule_ne e hrow hc]; decide
  · rcases hat with e | ⟨n, e, hn⟩
    · rw [e]
      exact h.ne g hg
    · rw [e]
      intro e2
      injection e2 with e2
      have := ownR_lt h.own.ol g hg
      omega
  · exact (ha.b.grown hgr (Nat.le_trans hB hba.size) fun g e => (ha.own.or_.row g e).1).setCell (p := ⟨gr, 1, none⟩) h.lo _
  · have h1 := hba.block i hi
    have hi2 := Nat.lt_of_lt_of_le hi hba.size
    rw [RF.set_block hne (Nat.lt_of_lt_of_le hi2 hgr.size), stay i hi2 fun cur T fr hc => (hT cur T fr (h1 ▸ hc)).1, h1]
/-- one more condition -/
theorem RdSt.cond (h : RdSt B gr vl vr vp q W w) {us : List Value} {y : R.Cd} (hB : B ≤ w.heap.size) (hba : Below w.heap.size w wa) (hl : us.length = q.pre.length * 3) (h2 : ∀ (k : Nat) (x : R.Cd), q.pre[k]? = some x → CdR w' ((us.drop (k * 3)).take 3) x) (hown : OwnAt w' 88 3 v' (q.pre.length + 1) (us ++ cdC y)) (hy : 0 ≤ y.imm ∧ y.imm < 4294967296) (hgr : wa.grownBy w' vp.ownBlock) (hat : v'.ownBlock = vp.ownBlock ∨ ∃ n, v'.ownBlock = some n ∧ w.heap.size ≤ n) :
    w'.heap[gr]? = some (.cells #[vl, vr, vp] 33 (0, 0)) ∧ RdSt B gr vl vr v' { q with pre := q.pre ++ [y] } W (w'.setCell ⟨gr, 2, none⟩ v') ∧ Fra gr w (w'.setCell ⟨gr, 2, none⟩ v') := by
  have ha := h.below hB hba
  have hr := fun g (e : vp.ownBlock = some g) => RF.ownC_ty ha.own.op e
  have hlo : ∀ g, vp.ownBlock = some g → B ≤ g := by
    obtain ⟨_, _, _, h3⟩ := h.own.op
    exact h3
  have stay : ∀ i, i < wa.heap.size → (∀ cur T fr, wa.heap[i]? = some (.cells cur T fr) → T ≠ 88) → w'.heap[i]? = wa.heap[i]? := fun i hi hT => hgr.block i hi fun e => by
    obtain ⟨cur, hc⟩ := hr i e.symm
    exact hT cur _ _ hc rfl
  have hrow := (stay gr ha.lt fun cur T fr hc => by rw [rule_ne rfl ha.row hc]; decide).trans ha.row
  have hs := setCell_grown w' gr 2 v'
  have hnew : (w'.setCell ⟨gr, 2, none⟩ v').heap[gr]? = some (.cells #[vl, vr, v'] 33 (0, 0)) := by
    have := heap_setCell_same w' gr 2 _ _ v' hrow
    rw [this]
    rfl
  have hB' : ∀ g, v'.ownBlock = some g → B ≤ g := fun g hg => by
    rcases hat with e | ⟨n, e, hn⟩
    · exact hlo g (e ▸ hg)
    · rw [e] at hg
      injection hg with hg
      omega
  refine ⟨hrow, ⟨h.lo, hnew, ⟨(ha.own.ol.other hgr fun g cur T fr e hc => ?_).other hs fun g cur T fr e hc => ?_, (ha.own.or_.other hgr fun g cur T fr e hc => ?_).other hs fun g cur T fr e hc => ?_, (RF.ownC_snoc hl h2 hown hy hB').other hs fun g cur T fr e hc => ?_⟩, h.ne, ?_⟩, fun i hi hne hT => ?_⟩
  · obtain ⟨cur', hc'⟩ := hr g e
    rw [ty_of hc hc']; exact ⟨by decide, by decide⟩
  · rw [rule_ne e hrow hc]; exact ⟨by decide, by decide⟩
  · obtain ⟨cur', hc'⟩ := hr g e
    rw [ty_of hc hc']; exact ⟨by decide, by decide⟩
  · rw [rule_ne e hrow hc]; exact ⟨by decide, by decide⟩
  · rw [rule_ne e hrow hc]; decide
  · exact (ha.b.grown hgr (Nat.le_trans hB hba.size) hlo).setCell (p := ⟨gr, 2, none⟩) h.lo _
  · have h1 := hba.block i hi
    have hi2 := Nat.lt_of_lt_of_le hi hba.size
    rw [RF.set_block hne (Nat.lt_of_lt_of_le hi2 hgr.size), stay i hi2 fun cur T fr hc => (hT cur T fr (h1 ▸ hc)).2, h1]
end
end KT
end Go.Proofs.YtbiopedpceddeaaGreatDoor
end
