/- Part. -/
import Derived.Test.YtbiopedpceddeaaGreatDoorQz10
import Derived.Lib.ItoaMem
import Derived.Deep.DeepCutAuto
set_option linter.unusedVariables false
set_option linter.unusedSimpArgs false
set_option maxRecDepth 100000
set_option maxHeartbeats 16000000
namespace Go.Proofs.YtbiopedpceddeaaGreatDoor
section
namespace KT
open Go.Lib
def nodeW (x : T.Nd) : List UInt8 := jn 44 (jn 46 [itoa x.op, itoa x.w, itoa x.fl, itoa x.imm] :: x.args.map itoa)
def condW (c : R.Cd) : List UInt8 := jn 46 [itoa c.kind, itoa c.hole, itoa c.imm]
def arrow : List UInt8 := [61, 62]
def iff_ : List UInt8 := [105, 102]
def wordsOf (r : R.Rl) : List (List UInt8) := r.left.map nodeW ++ arrow :: (r.right.map nodeW ++ iff_ :: r.pre.map condW)
def textW (r : R.Rl) : List UInt8 := jn 32 (wordsOf r)
def U32 (n : Int) : Prop := 0 ≤ n ∧ n < 4294967296
structure NdS (x : T.Nd) : Prop where
 op : U32 x.op
 w : U32 x.w
 fl : U32 x.fl
 imm : U32 x.imm
 args : ∀ a ∈ x.args, U32 a
structure CdS (c : R.Cd) : Prop where
 kind : U32 c.kind
 hole : U32 c.hole
 imm : U32 c.imm
structure RlS (r : R.Rl) : Prop where
 left : ∀ x ∈ r.left, NdS x
 right : ∀ x ∈ r.right, NdS x
 pre : ∀ c ∈ r.pre, CdS c
def partsOf (s : List UInt8) (n : Nat) : List Int := (splitN s [46] n).map num ++ List.replicate (n - (splitN s [46] n).length) 0
def nodeOf (s : List UInt8) : T.Nd :=
 { op := (partsOf (cut s [44]).1 4).getD 0 0, w := (partsOf (cut s [44]).1 4).getD 1 0, fl := (partsOf (cut s [44]).1 4).getD 2 0, imm := (partsOf (cut s [44]).1 4).getD 3 0, args := if (cut s [44]).2.2 then (split (cut s [44]).2.1 [44]).map num else [] }
def condOf (s : List UInt8) : R.Cd := ⟨(partsOf s 3).getD 0 0, (partsOf s 3).getD 1 0, (partsOf s 3).getD 2 0⟩
def upTo (e : List UInt8) : List (List UInt8) → List (List UInt8)
 | [] => []
 | w :: l => if w = e then [] else w :: upTo e l
def past (e : List UInt8) : List (List UInt8) → List (List UInt8)
 | [] => []
 | w :: l => if w = e then l else past e l
def candP (s : List UInt8) : R.Rl :=
 ⟨(upTo arrow (split s [32])).map nodeOf, (upTo iff_ (past arrow (split s [32]))).map nodeOf, (upTo [] (past iff_ (past arrow (split s [32])))).map condOf⟩
def fieldsR (s : List UInt8) : List Int := (pcs 46 s).map rnum ++ [0, 0, 0, 0]
def nodeR (w : List UInt8) : T.Nd :=
 { op := (fieldsR ((pcs 44 w).headD [])).getD 0 0, w := (fieldsR ((pcs 44 w).headD [])).getD 1 0, fl := (fieldsR ((pcs 44 w).headD [])).getD 2 0, imm := (fieldsR ((pcs 44 w).headD [])).getD 3 0, args := (pcs 44 w).tail.map rnum }
def condR (w : List UInt8) : R.Cd := ⟨(fieldsR ((pcs 44 w).headD [])).getD 0 0, (fieldsR ((pcs 44 w).headD [])).getD 1 0, (fieldsR ((pcs 44 w).headD [])).getD 2 0⟩
def stepR (q : Int × R.Rl) (w : List UInt8) : Int × R.Rl :=
 if w = arrow ∨ w = iff_ then (q.1 + 1, q.2)
 else if q.1 = 2 then (q.1, { q.2 with pre := q.2.pre ++ [condR w] })
 else if q.1 = 0 then (q.1, { q.2 with left := q.2.left ++ [nodeR w] })
 else if q.1 = 1 then (q.1, { q.2 with right := q.2.right ++ [nodeR w] })
 else q
def candR (s : List UInt8) : R.Rl := ((pcs 32 s).foldl stepR (0, ⟨[], [], []⟩)).2
theorem itoa_no {c : UInt8} (h : c.toNat < 45 ∨ c.toNat = 46 ∨ c.toNat = 47 ∨ 57 < c.toNat) (n : Int) : c ∉ itoa n := by
 intro hc
 have := itoa_byte n c hc
 omega
theorem nums_no (l : List Int) {c : UInt8} (h : c.toNat < 45 ∨ c.toNat = 46 ∨ c.toNat = 47 ∨ 57 < c.toNat) : ∀ x ∈ l.map itoa, c ∉ x := by
 intro x hx
 obtain ⟨n, _, rfl⟩ := List.mem_map.1 hx
 exact itoa_no h n
theorem jn46_byte (l : List Int) : ∀ b ∈ jn 46 (l.map itoa), b.toNat = 46 ∨ b.toNat = 45 ∨ (48 ≤ b.toNat ∧ b.toNat ≤ 57) := by
 intro b hb
 rcases jn_mem hb with h | ⟨x, hx, h⟩
 · left; rw [h]; rfl
 · obtain ⟨n, _, rfl⟩ := List.mem_map.1 hx
   rcases itoa_byte n b h with h | h
   · exact .inr (.inl h)
   · exact .inr (.inr h)
theorem nodeW_byte (x : T.Nd) : ∀ b ∈ nodeW x, b.toNat = 44 ∨ b.toNat = 46 ∨ b.toNat = 45 ∨ (48 ≤ b.toNat ∧ b.toNat ≤ 57) := by
 intro b hb
 rcases jn_mem hb with h | ⟨y, hy, h⟩
 · left; rw [h]; rfl
 · rcases List.mem_cons.1 hy with rfl | hy
   · exact .inr (jn46_byte [x.op, x.w, x.fl, x.imm] b h)
   · obtain ⟨n, _, rfl⟩ := List.mem_map.1 hy
     rcases itoa_byte n b h with h | h
     · exact .inr (.inr (.inl h))
     · exact .inr (.inr (.inr h))
theorem condW_byte (c : R.Cd) : ∀ b ∈ condW c, b.toNat = 46 ∨ b.toNat = 45 ∨ (48 ≤ b.toNat ∧ b.toNat ≤ 57) := jn46_byte [c.kind, c.hole, c.imm]
theorem jn_ne {c : UInt8} {x : List UInt8} {l : List (List UInt8)} (h : x ≠ []) : jn c (x :: l) ≠ [] := by
 cases l with
 | nil => exact h
 | cons y l => rw [jn]; simp
theorem condW_ne (c : R.Cd) : condW c ≠ [] := jn_ne (itoa_ne _)
theorem no_arrow {x : List UInt8} (h : ∀ b ∈ x, b.toNat ≠ 61) : x ≠ arrow := by
 rintro rfl
 exact h 61 (by simp [arrow]) rfl
theorem no_iff {x : List UInt8} (h : ∀ b ∈ x, b.toNat ≠ 105) : x ≠ iff_ := by
 rintro rfl
 exact h 105 (by simp [iff_]) rfl
theorem nodeW_arrow (x : T.Nd) : nodeW x ≠ arrow := no_arrow fun b hb => by have := nodeW_byte x b hb; omega
theorem nodeW_iff (x : T.Nd) : nodeW x ≠ iff_ := no_iff fun b hb => by have := nodeW_byte x b hb; omega
theorem condW_arrow (x : R.Cd) : condW x ≠ arrow := no_arrow fun b hb => by have := condW_byte x b hb; omega
theorem condW_iff (x : R.Cd) : condW x ≠ iff_ := no_iff fun b hb => by have := condW_byte x b hb; omega
theorem words_ne (r : R.Rl) : wordsOf r ≠ [] := by unfold wordsOf; simp
theorem words_no (r : R.Rl) : ∀ x ∈ wordsOf r, (32 : UInt8) ∉ x ∧ (10 : UInt8) ∉ x := by
 intro x hx
 have key : (∀ b ∈ x, 42 < b.toNat) → (32 : UInt8) ∉ x ∧ (10 : UInt8) ∉ x := fun h => ⟨fun hc => absurd (h _ hc) (by decide), fun hc => absurd (h _ hc) (by decide)⟩
 apply key
 unfold wordsOf at hx
 rcases List.mem_append.1 hx with hx | hx
 · obtain ⟨y, _, rfl⟩ := List.mem_map.1 hx
   intro b hb
   have := nodeW_byte y b hb
   omega
 · rcases List.mem_cons.1 hx with rfl | hx
   · intro b hb
     simp [arrow] at hb
     rcases hb with rfl | rfl <;> decide
   · rcases List.mem_append.1 hx with hx | hx
     · obtain ⟨y, _, rfl⟩ := List.mem_map.1 hx
       intro b hb
       have := nodeW_byte y b hb
       omega
     · rcases List.mem_cons.1 hx with rfl | hx
       · intro b hb
         simp [iff_] at hb
         rcases hb with rfl | rfl <;> decide
       · obtain ⟨y, _, rfl⟩ := List.mem_map.1 hx
         intro b hb
         have := condW_byte y b hb
         omega
theorem text_nl (r : R.Rl) : (10 : UInt8) ∉ textW r := by
 intro h
 rcases jn_mem h with h | ⟨x, hx, h⟩
 · exact absurd h (by decide)
 · exact (words_no r x hx).2 h
theorem split_text (r : R.Rl) : split (textW r) [32] = wordsOf r := split_jn 32 _ (words_ne r) fun x hx => (words_no r x hx).1
theorem pcs_text (r : R.Rl) : pcs 32 (textW r) = wordsOf r := pcs_jn 32 _ (words_ne r) fun x hx => (words_no r x hx).1
theorem map_num {l : List Int} (h : ∀ a ∈ l, U32 a) : (l.map itoa).map num = l := by
 rw [List.map_map]
 conv => rhs; rw [← List.map_id l]
 exact List.map_congr_left fun a ha => num_itoa (h a ha).1 (h a ha).2
theorem map_rnum {l : List Int} (h : ∀ a ∈ l, U32 a) : (l.map itoa).map rnum = l := by
 rw [List.map_map]
 conv => rhs; rw [← List.map_id l]
 exact List.map_congr_left fun a ha => rnum_itoa (h a ha).1 (h a ha).2
theorem parts_jn (l : List Int) (h : ∀ a ∈ l, U32 a) (hn : l ≠ []) : partsOf (jn 46 (l.map itoa)) l.length = l := by
 unfold partsOf
 rw [splitN_jn 46 (l.map itoa) l.length (by simpa using hn) (nums_no l (by decide)) (by simp), map_num h]
 simp
theorem nodeOf_W {x : T.Nd} (h : NdS x) : nodeOf (nodeW x) = x := by
 have hp := parts_jn [x.op, x.w, x.fl, x.imm] (by simp [h.op, h.w, h.fl, h.imm]) (by simp)
 have hno : (44 : UInt8) ∉ jn 46 ([x.op, x.w, x.fl, x.imm].map itoa) := fun hc => absurd (jn46_byte _ _ hc) (by decide)
 have hnW : nodeW x = jn 44 (jn 46 ([x.op, x.w, x.fl, x.imm].map itoa) :: x.args.map itoa) := rfl
 cases ha : x.args with
 | nil =>
  have hc : cut (nodeW x) [44] = (jn 46 ([x.op, x.w, x.fl, x.imm].map itoa), [], false) := by
   rw [hnW, ha]; exact cut_not 44 _ hno
  unfold nodeOf
  rw [hc]
  simp only [List.length_cons, List.length_nil, Nat.zero_add] at hp
  rw [hp]
  rcases x with ⟨a, b, c, d, e⟩
  simp only at ha
  subst ha
  rfl
 | cons a l =>
  have hc : cut (nodeW x) [44] = (jn 46 ([x.op, x.w, x.fl, x.imm].map itoa), jn 44 ((a :: l).map itoa), true) := by
   rw [hnW, ha]; exact cut_app 44 _ _ hno
  unfold nodeOf
  rw [hc]
  simp only [List.length_cons, List.length_nil, Nat.zero_add] at hp
  rw [hp]
  have hs : split (jn 44 ((a :: l).map itoa)) [44] = (a :: l).map itoa := split_jn 44 _ (by simp) (nums_no _ (by decide))
  have hm := map_num (l := a :: l) (by rw [← ha]; exact h.args)
  rcases x with ⟨a', b, c, d, e⟩
  simp only at ha
  subst ha
  simp only [hs, hm, if_true]
  rfl
theorem condOf_W {c : R.Cd} (h : CdS c) : condOf (condW c) = c := by
 have hp := parts_jn [c.kind, c.hole, c.imm] (by simp [h.kind, h.hole, h.imm]) (by simp)
 simp only [List.length_cons, List.length_nil, Nat.zero_add] at hp
 have hW : condW c = jn 46 ([c.kind, c.hole, c.imm].map itoa) := rfl
 unfold condOf
 rw [hW, hp]
 rfl
theorem fields_jn (l : List Int) (h : ∀ a ∈ l, U32 a) (hn : l ≠ []) : fieldsR (jn 46 (l.map itoa)) = l ++ [0, 0, 0, 0] := by
 unfold fieldsR
 rw [pcs_jn 46 (l.map itoa) (by simpa using hn) (nums_no l (by decide)), map_rnum h]
theorem nodeR_W {x : T.Nd} (h : NdS x) : nodeR (nodeW x) = x := by
 have hp := fields_jn [x.op, x.w, x.fl, x.imm] (by simp [h.op, h.w, h.fl, h.imm]) (by simp)
 have hno : (44 : UInt8) ∉ jn 46 ([x.op, x.w, x.fl, x.imm].map itoa) := fun hc => absurd (jn46_byte _ _ hc) (by decide)
 have hnW : nodeW x = jn 44 (jn 46 ([x.op, x.w, x.fl, x.imm].map itoa) :: x.args.map itoa) := rfl
 have hq : pcs 44 (nodeW x) = jn 46 ([x.op, x.w, x.fl, x.imm].map itoa) :: x.args.map itoa := by
  rw [hnW]
  refine pcs_jn 44 _ (by simp) fun y hy => ?_
  rcases List.mem_cons.1 hy with rfl | hy
  · exact hno
  · exact nums_no _ (by decide) y hy
 unfold nodeR
 rw [hq]
 simp only [List.headD_cons, List.tail_cons]
 rw [hp, map_rnum h.args]
 rfl
theorem condR_W {c : R.Cd} (h : CdS c) : condR (condW c) = c := by
 have hp := fields_jn [c.kind, c.hole, c.imm] (by simp [h.kind, h.hole, h.imm]) (by simp)
 have hno : (44 : UInt8) ∉ condW c := fun hc => absurd (condW_byte _ _ hc) (by decide)
 have hW : condW c = jn 46 ([c.kind, c.hole, c.imm].map itoa) := rfl
 unfold condR
 rw [pcs_not 44 _ hno]
 simp only [List.headD_cons]
 rw [hW, hp]
 rfl
theorem upTo_app {e : List UInt8} : ∀ (l m : List (List UInt8)), (∀ x ∈ l, x ≠ e) → upTo e (l ++ e :: m) = l ∧ past e (l ++ e :: m) = m := by
 intro l
 induction l with
 | nil => intro m _; simp [upTo, past]
 | cons x l ih =>
  intro m h
  obtain ⟨h1, h2⟩ := ih m fun y hy => h y (List.mem_cons_of_mem _ hy)
  rw [List.cons_append, upTo, past, if_neg (h x (by simp)), if_neg (h x (by simp)), h1, h2]
  exact ⟨rfl, rfl⟩
theorem upTo_all {e : List UInt8} : ∀ (l : List (List UInt8)), (∀ x ∈ l, x ≠ e) → upTo e l = l := by
 intro l
 induction l with
 | nil => intro _; rfl
 | cons x l ih => intro h; rw [upTo, if_neg (h x (by simp)), ih fun y hy => h y (List.mem_cons_of_mem _ hy)]
theorem map_back {α : Type} {f : α → List UInt8} {g : List UInt8 → α} {l : List α} (h : ∀ a ∈ l, g (f a) = a) : (l.map f).map g = l := by
 rw [List.map_map]
 conv => rhs; rw [← List.map_id l]
 exact List.map_congr_left fun a ha => h a ha
theorem candP_text {r : R.Rl} (h : RlS r) : candP (textW r) = r := by
 unfold candP
 rw [split_text]
 unfold wordsOf
 obtain ⟨a1, a2⟩ := upTo_app (e := arrow) (r.left.map nodeW) (r.right.map nodeW ++ iff_ :: r.pre.map condW) (by
  intro x hx; obtain ⟨y, _, rfl⟩ := List.mem_map.1 hx; exact nodeW_arrow y)
 obtain ⟨b1, b2⟩ := upTo_app (e := iff_) (r.right.map nodeW) (r.pre.map condW) (by
  intro x hx; obtain ⟨y, _, rfl⟩ := List.mem_map.1 hx; exact nodeW_iff y)
 have c1 := upTo_all (e := []) (r.pre.map condW) (by
  intro x hx; obtain ⟨y, _, rfl⟩ := List.mem_map.1 hx; exact condW_ne y)
 rw [a1, a2, b1, b2, c1, map_back fun a ha => nodeOf_W (h.left a ha), map_back fun a ha => nodeOf_W (h.right a ha), map_back fun a ha => condOf_W (h.pre a ha)]
theorem step_left {q : R.Rl} : ∀ (l : List T.Nd) (q : R.Rl), (∀ x ∈ l, NdS x) → (l.map nodeW).foldl stepR ((0 : Int), q) = ((0 : Int), { q with left := q.left ++ l }) := by
 intro l
 induction l with
 | nil => intro q _; simp
 | cons x l ih =>
  intro q h
  have h0 : stepR (0, q) (nodeW x) = (0, { q with left := q.left ++ [x] }) := by
   unfold stepR
   rw [if_neg (by simp [nodeW_arrow, nodeW_iff]), if_neg (by show ¬ (0 : Int) = 2; decide), if_pos rfl, nodeR_W (h x (by simp))]
  rw [List.map_cons, List.foldl_cons, h0, ih _ fun y hy => h y (List.mem_cons_of_mem _ hy)]
  simp
theorem step_right : ∀ (l : List T.Nd) (q : R.Rl), (∀ x ∈ l, NdS x) → (l.map nodeW).foldl stepR ((1 : Int), q) = ((1 : Int), { q with right := q.right ++ l }) := by
 intro l
 induction l with
 | nil => intro q _; simp
 | cons x l ih =>
  intro q h
  have h0 : stepR (1, q) (nodeW x) = (1, { q with right := q.right ++ [x] }) := by
   unfold stepR
   rw [if_neg (by simp [nodeW_arrow, nodeW_iff]), if_neg (by show ¬ (1 : Int) = 2; decide), if_neg (by show ¬ (1 : Int) = 0; decide), if_pos rfl, nodeR_W (h x (by simp))]
  rw [List.map_cons, List.foldl_cons, h0, ih _ fun y hy => h y (List.mem_cons_of_mem _ hy)]
  simp
theorem step_pre : ∀ (l : List R.Cd) (q : R.Rl), (∀ x ∈ l, CdS x) → (l.map condW).foldl stepR ((2 : Int), q) = ((2 : Int), { q with pre := q.pre ++ l }) := by
 intro l
 induction l with
 | nil => intro q _; simp
 | cons x l ih =>
  intro q h
  have h0 : stepR (2, q) (condW x) = (2, { q with pre := q.pre ++ [x] }) := by
   unfold stepR
   rw [if_neg (by simp [condW_arrow, condW_iff]), if_pos rfl, condR_W (h x (by simp))]
  rw [List.map_cons, List.foldl_cons, h0, ih _ fun y hy => h y (List.mem_cons_of_mem _ hy)]
  simp
theorem candR_text {r : R.Rl} (h : RlS r) : candR (textW r) = r := by
 unfold candR
 rw [pcs_text]
 unfold wordsOf
 have ea : ∀ q, stepR (0, q) arrow = (1, q) := fun q => by unfold stepR; rw [if_pos (.inl rfl)]; rfl
 have ei : ∀ q, stepR (1, q) iff_ = (2, q) := fun q => by unfold stepR; rw [if_pos (.inr rfl)]; rfl
 rw [List.foldl_append, step_left (q := r) r.left _ h.left, List.foldl_cons, ea, List.foldl_append, step_right r.right _ h.right, List.foldl_cons, ei, step_pre r.pre _ h.pre]
 simp
end KT
end
section
namespace KT
open Go.Lib
def sumStep (s : Int) (b : UInt8) : Int := (s * 257 + (b.toNat : Int) + 1) % 1000003
def sumT (n : Int) (t : List UInt8) : Int := t.foldl sumStep (n % 1000003)
theorem sumStep_range (s : Int) (b : UInt8) : 0 ≤ sumStep s b ∧ sumStep s b < 1000003 := by unfold sumStep; omega
theorem sumFold_range : ∀ (t : List UInt8) (n : Int), 0 ≤ n → n < 1000003 → 0 ≤ t.foldl sumStep n ∧ t.foldl sumStep n < 1000003 := by
 intro t
 induction t with
 | nil => intro n h0 h1; exact ⟨h0, h1⟩
 | cons b t ih => intro n _ _; exact ih _ (sumStep_range n b).1 (sumStep_range n b).2
theorem sumT_range (n : Int) (t : List UInt8) : 0 ≤ sumT n t ∧ sumT n t < 1000003 := sumFold_range t _ (by omega) (by omega)
def parse (s : List UInt8) : Option R.Rl := if R.rvalid (candP s) = 0 ∧ textW (candP s) = s then some (candP s) else none
theorem parts_u (s : List UInt8) (n i : Nat) : U32 ((partsOf s n).getD i 0) := by
 have key : ∀ a ∈ partsOf s n, U32 a := by
  intro a ha
  unfold partsOf at ha
  rcases List.mem_append.1 ha with ha | ha
  · obtain ⟨t, _, rfl⟩ := List.mem_map.1 ha
    exact num_range t
  · rw [List.mem_replicate] at ha
    rw [ha.2]
    exact ⟨by omega, by omega⟩
 rw [List.getD_eq_getElem?_getD]
 cases h : (partsOf s n)[i]? with
 | none => exact ⟨by simp, by simp⟩
 | some a => exact key a (List.mem_of_getElem? h)
theorem nodeOf_S (s : List UInt8) : NdS (nodeOf s) := by
 refine ⟨parts_u _ _ _, parts_u _ _ _, parts_u _ _ _, parts_u _ _ _, fun a ha => ?_⟩
 unfold nodeOf at ha
 simp only at ha
 split at ha
 · obtain ⟨t, _, rfl⟩ := List.mem_map.1 ha
   exact num_range t
 · cases ha
theorem candP_S (s : List UInt8) : RlS (candP s) := by
 unfold candP
 refine ⟨fun x hx => ?_, fun x hx => ?_, fun x hx => ?_⟩
 · obtain ⟨t, _, rfl⟩ := List.mem_map.1 hx; exact nodeOf_S t
 · obtain ⟨t, _, rfl⟩ := List.mem_map.1 hx; exact nodeOf_S t
 · obtain ⟨t, _, rfl⟩ := List.mem_map.1 hx; exact ⟨parts_u _ _ _, parts_u _ _ _, parts_u _ _ _⟩
theorem fields_u (s : List UInt8) (i : Nat) : U32 ((fieldsR s).getD i 0) := by
 have key : ∀ a ∈ fieldsR s, U32 a := by
  intro a ha
  unfold fieldsR at ha
  rcases List.mem_append.1 ha with ha | ha
  · obtain ⟨t, _, rfl⟩ := List.mem_map.1 ha
    exact rnum_range t
  · simp at ha
    rw [ha]
    exact ⟨by omega, by omega⟩
 rw [List.getD_eq_getElem?_getD]
 cases h : (fieldsR s)[i]? with
 | none => exact ⟨by simp, by simp⟩
 | some a => exact key a (List.mem_of_getElem? h)
theorem nodeR_S (s : List UInt8) : NdS (nodeR s) := by
 refine ⟨fields_u _ _, fields_u _ _, fields_u _ _, fields_u _ _, fun a ha => ?_⟩
 obtain ⟨t, _, rfl⟩ := List.mem_map.1 ha
 exact rnum_range t
theorem stepR_S (q : Int × R.Rl) (w : List UInt8) (h : RlS q.2) : RlS (stepR q w).2 := by
 unfold stepR
 split
 · exact h
 · split
   · refine ⟨h.left, h.right, fun c hc => ?_⟩
     rcases List.mem_append.1 hc with hc | hc
     · exact h.pre c hc
     · rw [List.mem_singleton] at hc
       subst hc
       exact ⟨fields_u _ _, fields_u _ _, fields_u _ _⟩
   · split
     · refine ⟨fun c hc => ?_, h.right, h.pre⟩
       rcases List.mem_append.1 hc with hc | hc
       · exact h.left c hc
       · rw [List.mem_singleton] at hc
         subst hc
         exact nodeR_S w
     · split
       · refine ⟨h.left, fun c hc => ?_, h.pre⟩
         rcases List.mem_append.1 hc with hc | hc
         · exact h.right c hc
         · rw [List.mem_singleton] at hc
           subst hc
           exact nodeR_S w
       · exact h
theorem candR_S (s : List UInt8) : RlS (candR s) := by
 unfold candR
 have : ∀ (l : List (List UInt8)) (q : Int × R.Rl), RlS q.2 → RlS (l.foldl stepR q).2 := by
  intro l
  induction l with
  | nil => intro q h; exact h
  | cons w l ih => intro q h; exact ih _ (stepR_S q w h)
 exact this _ _ ⟨fun _ h => (by cases h), fun _ h => (by cases h), fun _ h => (by cases h)⟩
theorem parse_some {s : List UInt8} {r : R.Rl} : parse s = some r ↔ R.rvalid r = 0 ∧ RlS r ∧ textW r = s := by
 unfold parse
 constructor
 · intro h
   split at h
   · rename_i hh
     injection h with h
     subst h
     exact ⟨hh.1, candP_S s, hh.2⟩
   · cases h
 · rintro ⟨h1, h2, rfl⟩
   rw [candP_text h2, if_pos ⟨h1, rfl⟩]
theorem parse_ref (s : List UInt8) : parse s = if R.rvalid (candR s) = 0 ∧ textW (candR s) = s then some (candR s) else none := by
 split
 · rename_i h
   exact parse_some.2 ⟨h.1, candR_S s, h.2⟩
 · rename_i h
   cases hp : parse s with
   | none => rfl
   | some r =>
    obtain ⟨h1, h2, h3⟩ := parse_some.1 hp
    refine absurd ⟨?_, ?_⟩ h
    · rw [← h3, candR_text h2]; exact h1
    · rw [← h3, candR_text h2]
theorem parse_text {r : R.Rl} (h : R.rvalid r = 0) (hs : RlS r) : parse (textW r) = some r := parse_some.2 ⟨h, hs, rfl⟩
def lineT (n : Int) (r : R.Rl) : List UInt8 := itoa (sumT n (textW r)) ++ 32 :: textW r ++ [10]
def storeFrom : Int → List R.Rl → List UInt8
 | _, [] => []
 | n, r :: l => lineT n r ++ storeFrom (sumT n (textW r)) l
def storeT (l : List R.Rl) : List UInt8 := storeFrom 0 l
def sums (n : Int) (l : List R.Rl) : Int := l.foldl (fun n r => sumT n (textW r)) n
theorem storeFrom_app : ∀ (l m : List R.Rl) (n : Int), storeFrom n (l ++ m) = storeFrom n l ++ storeFrom (sums n l) m := by
 intro l
 induction l with
 | nil => intro m n; rfl
 | cons r l ih => intro m n; rw [List.cons_append, storeFrom, storeFrom, ih, List.append_assoc]; rfl
def lineOf (s : List UInt8) : Option (List UInt8 × List UInt8 × List UInt8) :=
 if (cut s [10]).2.2 ∧ (cut (cut s [10]).1 [32]).2.2 then some ((cut (cut s [10]).1 [32]).1, (cut (cut s [10]).1 [32]).2.1, (cut s [10]).2.1) else none
theorem lineOf_some {s told t rest : List UInt8} : lineOf s = some (told, t, rest) ↔ s = told ++ 32 :: t ++ 10 :: rest ∧ (10 : UInt8) ∉ told ∧ (10 : UInt8) ∉ t ∧ (32 : UInt8) ∉ told := by
 unfold lineOf
 constructor
 · intro h
   rcases cut_cases 10 s with ⟨_, hc⟩ | ⟨x, A, rfl, hx, hc⟩
   · rw [hc] at h; simp at h
   · rw [hc] at h
     rcases cut_cases 32 x with ⟨_, hd⟩ | ⟨y, B, rfl, hy, hd⟩
     · simp only [hd] at h; simp at h
     · simp only [hd, and_self, if_true] at h
       injection h with h
       injection h with h1 h2
       injection h2 with h2 h3
       subst h1 h2 h3
       refine ⟨by simp, fun h => hx (by simp [h]), fun h => hx (by simp [h]), hy⟩
 · rintro ⟨rfl, h1, h2, h3⟩
   have e1 : cut (told ++ 32 :: t ++ 10 :: rest) [10] = (told ++ 32 :: t, rest, true) := cut_app 10 _ _ (by simp [h1, h2])
   have e2 : cut (told ++ 32 :: t) [32] = (told, t, true) := cut_app 32 _ _ h3
   rw [e1]
   simp only [e2, and_self, if_true]
def lineOk (sm : R.Rl → R.Rl → Bool) (n : Int) (l : List R.Rl) (told t : List UInt8) (r : R.Rl) : Prop :=
 parse t = some r ∧ told = itoa (sumT n t) ∧ l.any (fun q => sm q r) = false ∧ l.length < 40 ∧ t.length ≤ 200
inductive Reads (sm : R.Rl → R.Rl → Bool) : Int → List R.Rl → List UInt8 → List R.Rl → List UInt8 → Prop
 | stop {n l s} : (∀ told t rest r, lineOf s = some (told, t, rest) → ¬ lineOk sm n l told t r) → Reads sm n l s l s
 | go {n l s told t rest r m z} : lineOf s = some (told, t, rest) → lineOk sm n l told t r → Reads sm (sumT n t) (l ++ [r]) rest m z → Reads sm n l s m z
variable {sm : R.Rl → R.Rl → Bool}
theorem Reads.det {n : Int} {l : List R.Rl} {s : List UInt8} {m m' : List R.Rl} {z z' : List UInt8} (h : Reads sm n l s m z) (h' : Reads sm n l s m' z') : m = m' ∧ z = z' := by
 induction h with
 | stop hn =>
  cases h' with
  | stop _ => exact ⟨rfl, rfl⟩
  | go a b _ => exact absurd b (hn _ _ _ _ a)
 | go a b _ ih =>
  cases h' with
  | stop hn => exact absurd b (hn _ _ _ _ a)
  | go a' b' c' =>
   rw [a] at a'
   injection a' with a'
   injection a' with a1 a2
   injection a2 with a2 a3
   subst a1 a2 a3
   have := b.1.symm.trans b'.1
   injection this with this
   subst this
   exact ih c'
theorem lineOf_len {s told t rest : List UInt8} (h : lineOf s = some (told, t, rest)) : rest.length < s.length := by
 rw [(lineOf_some.1 h).1]
 simp
 omega
theorem Reads.ex (sm : R.Rl → R.Rl → Bool) : ∀ (k : Nat) (n : Int) (l : List R.Rl) (s : List UInt8), s.length ≤ k → ∃ m z, Reads sm n l s m z := by
 intro k
 induction k with
 | zero =>
  intro n l s hs
  refine ⟨l, s, .stop fun told t rest r h => ?_⟩
  have := lineOf_len h
  omega
 | succ k ih =>
  intro n l s hs
  by_cases h : ∃ told t rest r, lineOf s = some (told, t, rest) ∧ lineOk sm n l told t r
  · obtain ⟨told, t, rest, r, h1, h2⟩ := h
    have := lineOf_len h1
    obtain ⟨m, z, h3⟩ := ih (sumT n t) (l ++ [r]) rest (by omega)
    exact ⟨m, z, .go h1 h2 h3⟩
  · exact ⟨l, s, .stop fun told t rest r h1 h2 => h ⟨told, t, rest, r, h1, h2⟩⟩
structure Good (sm : R.Rl → R.Rl → Bool) (l : List R.Rl) : Prop where
 valid : ∀ r ∈ l, R.rvalid r = 0
 small : ∀ r ∈ l, RlS r
 apart : l.Pairwise fun q r => sm q r = false
 len : l.length ≤ 40
 short : ∀ r ∈ l, (textW r).length ≤ 200
theorem Good.nil : Good sm [] := ⟨fun _ h => (by cases h), fun _ h => (by cases h), .nil, by simp, fun _ h => (by cases h)⟩
theorem Good.snoc {l : List R.Rl} {r : R.Rl} (h : Good sm l) (hv : R.rvalid r = 0) (hs : RlS r) (hn : l.any (fun q => sm q r) = false) (hl : l.length < 40) (ht : (textW r).length ≤ 200) : Good sm (l ++ [r]) := by
 refine ⟨fun q hq => ?_, fun q hq => ?_, ?_, by simp; omega, fun q hq => ?_⟩
 · rcases List.mem_append.1 hq with hq | hq
   · exact h.valid q hq
   · rw [List.mem_singleton] at hq; subst hq; exact hv
 · rcases List.mem_append.1 hq with hq | hq
   · exact h.small q hq
   · rw [List.mem_singleton] at hq; subst hq; exact hs
 · rw [List.pairwise_append]
   refine ⟨h.apart, List.pairwise_singleton _ _, fun q hq b hb => ?_⟩
   rw [List.mem_singleton] at hb
   subst hb
   rw [List.any_eq_false] at hn
   simpa using hn q hq
 · rcases List.mem_append.1 hq with hq | hq
   · exact h.short q hq
   · rw [List.mem_singleton] at hq; subst hq; exact ht
theorem Reads.good {n : Int} {l : List R.Rl} {s : List UInt8} {m : List R.Rl} {z : List UInt8} (h : Reads sm n l s m z) (hl : Good sm l) : Good sm m ∧ ∃ p, m = l ++ p ∧ storeFrom n p ++ z = s := by
 induction h with
 | stop _ => exact ⟨hl, [], by simp, rfl⟩
 | @go n l s told t rest r m z a b c ih =>
  obtain ⟨b1, b2, b3, b4, b5⟩ := b
  obtain ⟨p1, p2, p3⟩ := parse_some.1 b1
  obtain ⟨g, p, rfl, hp⟩ := ih (hl.snoc p1 p2 b3 b4 (by rw [p3]; exact b5))
  refine ⟨g, r :: p, by simp, ?_⟩
  rw [storeFrom, lineT, p3, (lineOf_some.1 a).1, ← hp, b2]
  simp
theorem itoa_nl (n : Int) : (10 : UInt8) ∉ itoa n := itoa_no (by decide) n
theorem itoa_sp (n : Int) : (32 : UInt8) ∉ itoa n := itoa_no (by decide) n
theorem lineOf_line (n : Int) (r : R.Rl) (A : List UInt8) : lineOf (lineT n r ++ A) = some (itoa (sumT n (textW r)), textW r, A) := by
 refine lineOf_some.2 ⟨by unfold lineT; simp, itoa_nl _, text_nl r, itoa_sp _⟩
theorem Reads.store {A : List UInt8} {m : List R.Rl} {z : List UInt8} : ∀ (p : List R.Rl) (n : Int) (l : List R.Rl), Good sm (l ++ p) → Reads sm (sums n p) (l ++ p) A m z → Reads sm n l (storeFrom n p ++ A) m z := by
 intro p
 induction p with
 | nil => intro n l _ h; simpa [storeFrom, sums] using h
 | cons r p ih =>
  intro n l hg h
  rw [storeFrom, List.append_assoc]
  have hr : r ∈ l ++ r :: p := by simp
  refine .go (lineOf_line n r _) (r := r) ⟨parse_text (hg.valid r hr) (hg.small r hr), rfl, ?_, ?_, hg.short r hr⟩ ?_
  · have := hg.apart
    rw [List.pairwise_append] at this
    rw [List.any_eq_false]
    intro q hq
    simp [this.2.2 q hq r (by simp)]
  · have := hg.len
    simp at this
    omega
  · refine ih _ (l ++ [r]) (by simpa using hg) ?_
    simpa [sums] using h
theorem lineOf_nil : lineOf [] = none := by unfold lineOf; simp [cut, index]
theorem Reads.whole {p : List R.Rl} (h : Good sm p) : Reads sm 0 [] (storeT p) p [] := by
 have := Reads.store (sm := sm) (A := []) (m := p) (z := []) p 0 [] (by simpa using h) (by
  simp only [List.nil_append]
  exact .stop fun told t rest r e => by rw [lineOf_nil] at e; cases e)
 simpa [storeT] using this
theorem Reads.is_store {s : List UInt8} {m : List R.Rl} {z : List UInt8} (h : Reads sm 0 [] s m z) : Good sm m ∧ storeT m ++ z = s := by
 obtain ⟨g, p, hp, e⟩ := h.good Good.nil
 simp only [List.nil_append] at hp
 subst hp
 exact ⟨g, e⟩
def addT (sm : R.Rl → R.Rl → Bool) (l : List R.Rl) (r : R.Rl) : List R.Rl := if l.any (fun q => sm q r) then l else l ++ [r]
def mergeT (sm : R.Rl → R.Rl → Bool) (l m : List R.Rl) : List R.Rl := m.foldl (addT sm) l
theorem addT_pre (l : List R.Rl) (r : R.Rl) : l <+: addT sm l r := by
 unfold addT
 split
 · exact List.prefix_rfl
 · exact List.prefix_append _ _
theorem mergeT_pre : ∀ (m l : List R.Rl), l <+: mergeT sm l m := by
 intro m
 induction m with
 | nil => intro l; exact List.prefix_rfl
 | cons r m ih => intro l; exact (addT_pre l r).trans (ih _)
theorem any_pre {l m : List R.Rl} (h : l <+: m) {r : R.Rl} (ha : l.any (fun q => sm q r) = true) : m.any (fun q => sm q r) = true := by
 rw [List.any_eq_true] at ha ⊢
 obtain ⟨q, hq, e⟩ := ha
 exact ⟨q, h.subset hq, e⟩
theorem addT_has (refl : ∀ r, sm r r = true) (l : List R.Rl) (r : R.Rl) : (addT sm l r).any (fun q => sm q r) = true := by
 unfold addT
 split
 · rename_i h; exact h
 · rw [List.any_append]
   simp [refl r]
theorem mergeT_has (refl : ∀ r, sm r r = true) : ∀ (m l : List R.Rl) (r : R.Rl), r ∈ m → (mergeT sm l m).any (fun q => sm q r) = true := by
 intro m
 induction m with
 | nil => intro l r h; cases h
 | cons x m ih =>
  intro l r h
  rcases List.mem_cons.1 h with rfl | h
  · exact any_pre (mergeT_pre m _) (addT_has refl l r)
  · exact ih _ r h
theorem mergeT_same : ∀ (m l : List R.Rl), (∀ r ∈ m, l.any (fun q => sm q r) = true) → mergeT sm l m = l := by
 intro m
 induction m with
 | nil => intro l _; rfl
 | cons r m ih =>
  intro l h
  have e : addT sm l r = l := by unfold addT; rw [if_pos (h r (by simp))]
  rw [mergeT, List.foldl_cons, e]
  exact ih l fun x hx => h x (List.mem_cons_of_mem _ hx)
theorem mergeT_len (m l : List R.Rl) : l.length ≤ (mergeT sm l m).length := (mergeT_pre m l).length_le
theorem mergeT_good {l : List R.Rl} : ∀ (m l : List R.Rl), Good sm l → (∀ r ∈ m, R.rvalid r = 0) → (∀ r ∈ m, RlS r) → (∀ r ∈ m, (textW r).length ≤ 200) → (mergeT sm l m).length ≤ 40 → Good sm (mergeT sm l m) := by
 intro m
 induction m with
 | nil => intro l h _ _ _ _; exact h
 | cons r m ih =>
  intro l h hv hs ht hl
  refine ih _ ?_ (fun x hx => hv x (List.mem_cons_of_mem _ hx)) (fun x hx => hs x (List.mem_cons_of_mem _ hx)) (fun x hx => ht x (List.mem_cons_of_mem _ hx)) hl
  have h2 := mergeT_len (sm := sm) m (addT sm l r)
  have h3 : (mergeT sm (addT sm l r) m).length ≤ 40 := hl
  unfold addT at h2 h3 ⊢
  split
  · exact h
  · rename_i hn
    rw [if_neg hn] at h2 h3
    simp only [List.length_append, List.length_singleton] at h2
    exact h.snoc (hv r (by simp)) (hs r (by simp)) (by simpa using hn) (by omega) (ht r (by simp))
end KT
end
section
open Go.RowKit Go.Maps Go.Sort
namespace KT
theorem below_putRow {α : Type} [Inhabited α] {enc : α → Value} {W w1 : World} (hb : Below W.heap.size W w1) {blk off : Nat} (d : Array α) (h : W.heap.size ≤ blk) (k : Nat) : Below W.heap.size W ((putRow enc w1 blk off d).drewN k) := by
 refine hb.grown (row := some blk) ⟨rfl, rfl, rfl, by simp [putRow, mapBlock], fun i hi hne => ?_⟩ hb.size (fun g hg => by cases hg; exact h)
 have : blk ≠ i := fun e => hne (by rw [e])
 simp [putRow, mapBlock, Array.getElem?_modify, this]
theorem kFormatUintI_any {u : Nat} (hu : u < 18446744073709551616) {W : World} (hT : Tens W) :
 Calls Tryz.prog 179 #[.int .u64 (u : Int), .int .i64 10] W fun e w' => e = .returned (.string ⟨(Lib.decDigits u).toArray⟩) ∧ Below W.heap.size W w' := by
 by_cases hs : u < 100
 · have q : decide ((u : Int) < 100) = true := by simp; omega
   go_enter Tryz.func179, Tryz.ntmps179
   go_wp2_with (go_at_call 233; refine (Tryz.internal_strconv_small u hs _).mono ?_; rintro e w' ⟨rfl, rfl⟩)
   go_ret
   exact ⟨rfl, Below.refl _ _⟩
 · have q : decide ((u : Int) < 100) = false := by simp; omega
   have hu1 : 1 ≤ u := by omega
   have hnd20 : Lib.nDigits u ≤ 20 := by have := Lib.numDigits_eq u hu1 hu; split at this <;> omega
   obtain ⟨W1, hW1⟩ : ∃ W1, W1 = W.alloc (.cells #[.int .u8 0, .int .u8 0, .int .u8 0, .int .u8 0, .int .u8 0, .int .u8 0, .int .u8 0, .int .u8 0, .int .u8 0, .int .u8 0, .int .u8 0, .int .u8 0, .int .u8 0, .int .u8 0, .int .u8 0, .int .u8 0, .int .u8 0, .int .u8 0, .int .u8 0, .int .u8 0, .int .u8 0, .int .u8 0, .int .u8 0, .int .u8 0] 254) := ⟨_, rfl⟩
   have hb1 : Below W.heap.size W W1 := by rw [hW1]; exact al0
   have HT1 := kH (show Lib.TabIs Tryz.prog W1 "internal/strconv.uint64pow10" .u64 Lib.pow10Tab from hT.below hb1)
   go_enter Tryz.func179, Tryz.ntmps179
   go_wp2_with fail
   rw [← hW1]
   (with_reducible refine (Tryz.internal_strconv_numDigits u hu1 hu _ HT1.out).mono ?_)
   rintro e w' ⟨rfl, rfl⟩
   have hW : w' = W.alloc (.cells Lib.zeros24 254) := hW1
   have hH : Holds (fun (b : UInt8) => Value.int .u8 (b.toNat : Int)) w' W.heap.size 0 (Array.replicate (Lib.nDigits u) (0 : UInt8)) := fun j hj => by
    have hj' : j < Lib.nDigits u := by simpa using hj
    rw [hW]
    refine ⟨?_, World.frozen?_alloc_new _ _ _ _⟩
    rw [World.cell?_alloc_new, Lib.zeros24_at _ (by omega), getElem!_pos _ j hj]
    simp
   have hal : Tryz.prog.arrayLen 254 = 24 := by kernel_rfl
   have hsl : ∀ X, (Instr.sliceAt 254 (.pointer (some ⟨W.heap.size, 0, none⟩)) none (some (.int .i64 (Lib.nDigits u : Int))) none).run Tryz.prog X = .ok (.slice (some ⟨W.heap.size, 0, none⟩) (Lib.nDigits u) 24) X := fun X => by
    rw [run_sliceAt_array_h X 254 ⟨W.heap.size, 0, none⟩ (by simp [Program.arrayLen, Program.elem, Tryz.underlying254]) .i64 (Lib.nDigits u : Int) (by omega) (by rw [hal]; omega)]
    go_simp
   have hfmt := Tryz.internal_strconv_formatBase10 W.heap.size 0 24 u (Array.replicate (Lib.nDigits u) 0) w' hH (by rw [Array.size_replicate]; exact Lib.lt_pow_nDigits u) hu (by rw [Array.size_replicate]; omega)
   rw [Array.size_replicate] at hfmt
   have Hfmt := kH hfmt
   have HH := kH hH
   clear hW1 hW hfmt hH
   go_wp2_with fail
   (with_reducible refine Hfmt.out.mono ?_)
   rintro e w2 ⟨rfl, k, v', dk, rfl, hF⟩
   have hcv : (convert 117 9 (.slice (some ⟨W.heap.size, 0, none⟩) (Lib.nDigits u) 24)).run Tryz.prog ((putRow (fun (b : UInt8) => Value.int .u8 (b.toNat : Int)) w' W.heap.size 0 dk).drewN k) = .ok (.string ⟨(Lib.decDigits u).toArray⟩) ((putRow (fun (b : UInt8) => Value.int .u8 (b.toNat : Int)) w' W.heap.size 0 dk).drewN k) := by
    have h := run_convert_bytes_back (P := Tryz.prog) ((putRow (fun (b : UInt8) => Value.int .u8 (b.toNat : Int)) w' W.heap.size 0 dk).drewN k) 117 9 5 ⟨W.heap.size, 0, none⟩ 24 (Lib.decDigits u) Tryz.underlying117 Tryz.underlying5 Tryz.underlying9 (fun j hj => by
     rw [Lib.add_plain, Lib.row_is_numeral hF j hj, World.cell?_drewN]
     exact cell?_putRow (fun (b : UInt8) => Value.int .u8 (b.toNat : Int)) _ W.heap.size 0 _ dk HH.out (by rw [hF.size, Array.size_replicate]) j (by rw [hF.size]; rw [Lib.decDigits_length] at hj; exact hj))
    rw [Lib.decDigits_length] at h
    exact h
   have Hbe := kH (below_putRow (enc := fun (b : UInt8) => Value.int .u8 (b.toNat : Int)) (blk := W.heap.size) (off := 0) hb1 dk (Nat.le_refl _) k)
   clear hF
   generalize (putRow (fun (b : UInt8) => Value.int .u8 (b.toNat : Int)) w' W.heap.size 0 dk).drewN k = w3 at *
   go_wp2
   go_ret
   exact ⟨rfl, Hbe.out⟩
theorem kFormatUint_any {u : Nat} (hu : u < 18446744073709551616) {W : World} (hT : Tens W) :
 Calls Tryz.prog 134 #[.int .u64 (u : Int), .int .i64 10] W fun e w' => e = .returned (.string ⟨(Lib.decDigits u).toArray⟩) ∧ Below W.heap.size W w' := by
 have H := kH (kFormatUintI_any hu hT)
 go_enter Tryz.func134, Tryz.ntmps134
 go_wp2_with fail
 (with_reducible refine H.out.mono ?_)
 rintro e w2 ⟨rfl, hb⟩
 have Hb := kH hb
 clear hb
 go_wp2
 go_ret
 exact ⟨rfl, Hb.out⟩
end KT
end
section
open Go.RowKit
namespace KT
theorem quiet_adds {C : World → Prop} {K : Act → Prop} {a : Act} {o : Oper} {xo yo : Operand} {T2 : TypeId} (h : o.op = .binOp .add 9 xo yo T2) (x y : List UInt8) (hx : a.eval xo = .string ⟨x.toArray⟩) (hy : a.eval yo = .string ⟨y.toArray⟩)
 (hl : x.length + y.length ≤ 4000000000) (hk : K (a.put o.dst (.string ⟨(x ++ y).toArray⟩))) : o.quiet Tryz.prog a C K :=
 ⟨_, fun w _ => by
  unfold Oper.quietAt execOp
  rw [h]
  simp only [hx, hy]
  have n : ¬ 9223372036854775807 < x.length + y.length := by omega
  have m := ByteArray.mk_append_mk x y
  go_simp, hk⟩
end KT
end
section
namespace KT
def meet (s : List Int) (n : Int) : List Int := if n ∈ s then s else s ++ [n]
def seen (op : Int) : List Int → List T.Nd → List Int
 | s, [] => s
 | s, x :: l => seen op (if x.op = op then meet s x.imm else s) l
def ren (vs hs : List Int) (x : T.Nd) : T.Nd := if x.op = 33 then { x with imm := ((vs.idxOf x.imm : Nat) : Int) } else if x.op = 34 then { x with imm := ((hs.idxOf x.imm : Nat) : Int) } else x
theorem meet_pre (s : List Int) (n : Int) : s <+: meet s n := by
 unfold meet
 split
 · exact List.prefix_rfl
 · exact List.prefix_append _ _
theorem meet_mem (s : List Int) (n m : Int) : m ∈ meet s n ↔ m ∈ s ∨ m = n := by
 unfold meet
 split
 · rename_i h
   exact ⟨.inl, fun k => k.elim id fun e => e ▸ h⟩
 · simp
theorem seen_pre (op : Int) : ∀ (l : List T.Nd) (s : List Int), s <+: seen op s l := by
 intro l
 induction l with
 | nil => intro s; exact List.prefix_rfl
 | cons x l ih =>
  intro s
  refine List.IsPrefix.trans ?_ (ih _)
  split
  · exact meet_pre s x.imm
  · exact List.prefix_rfl
theorem seen_mem (op : Int) : ∀ (l : List T.Nd) (s : List Int) (n : Int), n ∈ seen op s l ↔ n ∈ s ∨ ∃ x ∈ l, x.op = op ∧ x.imm = n := by
 intro l
 induction l with
 | nil => intro s n; simp [seen]
 | cons x l ih =>
  intro s n
  rw [seen, ih]
  by_cases h : x.op = op
  · rw [if_pos h, meet_mem]
    constructor
    · rintro ((h1 | rfl) | ⟨y, hy, h1⟩)
      · exact .inl h1
      · exact .inr ⟨x, by simp, h, rfl⟩
      · exact .inr ⟨y, List.mem_cons_of_mem _ hy, h1⟩
    · rintro (h1 | ⟨y, hy, h1, h2⟩)
      · exact .inl (.inl h1)
      · rcases List.mem_cons.1 hy with rfl | hy
        · exact .inl (.inr h2.symm)
        · exact .inr ⟨y, hy, h1, h2⟩
  · rw [if_neg h]
    constructor
    · rintro (h1 | ⟨y, hy, h1⟩)
      · exact .inl h1
      · exact .inr ⟨y, List.mem_cons_of_mem _ hy, h1⟩
    · rintro (h1 | ⟨y, hy, h1, h2⟩)
      · exact .inl h1
      · rcases List.mem_cons.1 hy with rfl | hy
        · exact absurd h1 h
        · exact .inr ⟨y, hy, h1, h2⟩
theorem seen_app (op : Int) : ∀ (l m : List T.Nd) (s : List Int), seen op s (l ++ m) = seen op (seen op s l) m := by
 intro l
 induction l with
 | nil => intro m s; rfl
 | cons x l ih => intro m s; exact ih m _
theorem seen_still (op : Int) : ∀ (l : List T.Nd) (s : List Int), (∀ x ∈ l, x.op = op → x.imm ∈ s) → seen op s l = s := by
 intro l
 induction l with
 | nil => intro s _; rfl
 | cons x l ih =>
  intro s h
  rw [seen]
  by_cases hx : x.op = op
  · have := h x (by simp) hx
    rw [if_pos hx, meet, if_pos this]
    exact ih s fun y hy => h y (List.mem_cons_of_mem _ hy)
  · rw [if_neg hx]
    exact ih s fun y hy => h y (List.mem_cons_of_mem _ hy)
theorem idx_pre {s t : List Int} (h : s <+: t) {a : Int} (ha : a ∈ s) : t.idxOf a = s.idxOf a := by
 obtain ⟨u, rfl⟩ := h
 rw [List.idxOf_append, if_pos ha]
theorem ren_pre {vs hs vs' hs' : List Int} {x : T.Nd} (hv : vs <+: vs') (hh : hs <+: hs') (h1 : x.op = 33 → x.imm ∈ vs) (h2 : x.op = 34 → x.imm ∈ hs) : ren vs' hs' x = ren vs hs x := by
 unfold ren
 by_cases h33 : x.op = 33
 · rw [if_pos h33, if_pos h33, idx_pre hv (h1 h33)]
 · rw [if_neg h33, if_neg h33]
   by_cases h34 : x.op = 34
   · rw [if_pos h34, if_pos h34, idx_pre hh (h2 h34)]
   · rw [if_neg h34, if_neg h34]
structure Form where
 left : List T.Nd
 right : List T.Nd
 pre : List (List Int)
def form (L Q : List T.Nd) (ps : List R.Cd) : Form :=
 ⟨L.map (ren (seen 33 [] L) (seen 34 [] L)), Q.map (ren (seen 33 [] L) (seen 34 [] L)), ps.map fun c => [c.kind, (((seen 34 [] L).idxOf c.hole : Nat) : Int), c.imm]⟩
def Form.same (a b : Form) : Prop := a.left = b.left ∧ a.right = b.right ∧ (∀ p ∈ a.pre, p ∈ b.pre) ∧ ∀ p ∈ b.pre, p ∈ a.pre
def ltL : List Int → List Int → Prop
 | [], [] => False
 | [], _ :: _ => True
 | _ :: _, [] => False
 | a :: l, b :: m => a < b ∨ (a = b ∧ ltL l m)
theorem ltL_irr : ∀ l, ¬ ltL l l := by
 intro l
 induction l with
 | nil => exact id
 | cons a l ih =>
  rintro (h | ⟨_, h⟩)
  · omega
  · exact ih h
theorem ltL_tr : ∀ l m n, ltL l m → ltL m n → ltL l n := by
 intro l
 induction l with
 | nil =>
  intro m n h k
  cases m with
  | nil => exact h.elim
  | cons b m =>
   cases n with
   | nil => exact k.elim
   | cons c n => trivial
 | cons a l ih =>
  intro m n h k
  cases m with
  | nil => exact h.elim
  | cons b m =>
   cases n with
   | nil => exact k.elim
   | cons c n =>
    rcases h with h | ⟨rfl, h⟩
    · rcases k with k | ⟨rfl, k⟩
      · exact .inl (by omega)
      · exact .inl h
    · rcases k with k | ⟨rfl, k⟩
      · exact .inl k
      · exact .inr ⟨rfl, ih _ _ h k⟩
structure KeyOf (f : Form) (k : List UInt8) : Prop where
 ex : ∃ ps : List (List Int), ps.Pairwise ltL ∧ (∀ p, p ∈ ps ↔ p ∈ f.pre) ∧ k = keyT f.left f.right ps
theorem KeyOf.iff {f g : Form} {k j : List UInt8} (h : KeyOf f k) (h' : KeyOf g j) (f1 : f.left ≠ []) (f2 : f.right ≠ []) (g1 : g.left ≠ []) (g2 : g.right ≠ []) (fp : ∀ p ∈ f.pre, p ≠ []) (gp : ∀ p ∈ g.pre, p ≠ []) : k = j ↔ f.same g := by
 obtain ⟨ps, p1, p2, rfl⟩ := h.ex
 obtain ⟨qs, q1, q2, rfl⟩ := h'.ex
 constructor
 · intro e
   obtain ⟨e1, e2, e3⟩ := keyT_inj f1 f2 g1 g2 (fun x hx => fp x ((p2 x).1 hx)) (fun x hx => gp x ((q2 x).1 hx)) e
   exact ⟨e1, e2, fun p hp => (q2 p).1 (e3 ▸ (p2 p).2 hp), fun p hp => (p2 p).1 (e3 ▸ (q2 p).2 hp)⟩
 · rintro ⟨e1, e2, e3, e4⟩
   rw [e1, e2, asc_eq ltL_irr ltL_tr p1 q1 fun x => ⟨fun hx => (q2 x).2 (e3 x ((p2 x).1 hx)), fun hx => (p2 x).2 (e4 x ((q2 x).1 hx))⟩]
end KT
end
section
namespace KT
def stV (op : Int) (s : List Int) (x : T.Nd) : List Int := if x.op = op then meet s x.imm else s
theorem seen_cons (op : Int) (s : List Int) (x : T.Nd) (l : List T.Nd) : seen op s (x :: l) = seen op (stV op s x) l := rfl
theorem stV_has {op : Int} {s : List Int} {x : T.Nd} (h : x.op = op) : x.imm ∈ stV op s x := by
 unfold stV
 rw [if_pos h, meet_mem]
 exact .inr rfl
def renL : List Int → List Int → List T.Nd → List T.Nd
 | _, _, [] => []
 | vs, hs, x :: l => ren (stV 33 vs x) (stV 34 hs x) x :: renL (stV 33 vs x) (stV 34 hs x) l
theorem renL_eq : ∀ (l : List T.Nd) (vs hs : List Int), renL vs hs l = l.map (ren (seen 33 vs l) (seen 34 hs l)) := by
 intro l
 induction l with
 | nil => intro vs hs; rfl
 | cons x l ih =>
  intro vs hs
  rw [renL, List.map_cons, seen_cons, seen_cons, ih, ren_pre (seen_pre 33 l _) (seen_pre 34 l _) stV_has stV_has]
theorem renL_app (l m : List T.Nd) : ∀ (vs hs : List Int), renL vs hs (l ++ m) = renL vs hs l ++ renL (seen 33 vs l) (seen 34 hs l) m := by
 induction l with
 | nil => intro vs hs; rfl
 | cons x l ih => intro vs hs; rw [List.cons_append, renL, renL, ih]; rfl
def compFrom (x : List Int) : List (List Int) → List (List Int)
 | [] => []
 | y :: l => if y = x then compFrom y l else y :: compFrom y l
def compT : List (List Int) → List (List Int)
 | [] => []
 | x :: l => x :: compFrom x l
theorem compFrom_mem : ∀ (l : List (List Int)) (x p : List Int), p ∈ x :: compFrom x l ↔ p ∈ x :: l := by
 intro l
 induction l with
 | nil => intro x p; rfl
 | cons y l ih =>
  intro x p
  rw [compFrom]
  have h := ih y p
  split
  · rename_i e
    subst e
    rw [h]
    simp
  · rw [List.mem_cons, h, List.mem_cons (a := p) (b := x)]
theorem compT_mem (l : List (List Int)) (p : List Int) : p ∈ compT l ↔ p ∈ l := by
 cases l with
 | nil => rfl
 | cons x l => exact compFrom_mem l x p
theorem ltL_total : ∀ l m, ltL l m ∨ l = m ∨ ltL m l := by
 intro l
 induction l with
 | nil => intro m; cases m with
  | nil => exact .inr (.inl rfl)
  | cons b m => exact .inl trivial
 | cons a l ih =>
  intro m
  cases m with
  | nil => exact .inr (.inr trivial)
  | cons b m =>
   rcases Int.lt_trichotomy a b with h | rfl | h
   · exact .inl (.inl h)
   · rcases ih m with h | rfl | h
     · exact .inl (.inr ⟨rfl, h⟩)
     · exact .inr (.inl rfl)
     · exact .inr (.inr (.inr ⟨rfl, h⟩))
   · exact .inr (.inr (.inl h))
theorem compFrom_asc : ∀ (l : List (List Int)) (x : List Int), (x :: l).Pairwise (fun a b => ¬ ltL b a) → (x :: compFrom x l).Pairwise ltL := by
 intro l
 induction l with
 | nil => intro x _; exact List.pairwise_singleton _ _
 | cons y l ih =>
  intro x h
  rw [List.pairwise_cons] at h
  have hy := ih y h.2
  rw [compFrom]
  split
  · rename_i e; subst e; exact hy
  · rename_i e
    have hxy : ltL x y := by
     rcases ltL_total x y with h1 | h1 | h1
     · exact h1
     · exact absurd h1.symm e
     · exact absurd h1 (h.1 y (by simp))
    rw [List.pairwise_cons]
    refine ⟨fun p hp => ?_, hy⟩
    rcases List.mem_cons.1 hp with rfl | hp
    · exact hxy
    · rw [List.pairwise_cons] at hy
      exact ltL_tr _ _ _ hxy (hy.1 p hp)
theorem compT_asc {l : List (List Int)} (h : l.Pairwise fun a b => ¬ ltL b a) : (compT l).Pairwise ltL := by
 cases l with
 | nil => exact .nil
 | cons x l => exact compFrom_asc l x h
theorem KeyOf.mk' (L Q : List T.Nd) (ps : List R.Cd) (qs : List (List Int))
 (h1 : ∀ x ∈ Q, x.op = 33 → x.imm ∈ seen 33 [] L) (h2 : ∀ x ∈ Q, x.op = 34 → x.imm ∈ seen 34 [] L)
 (hq : qs.Pairwise fun a b => ¬ ltL b a) (hm : ∀ p, p ∈ qs ↔ p ∈ (form L Q ps).pre) :
 KeyOf (form L Q ps) (keyT (renL [] [] L) (renL (seen 33 [] L) (seen 34 [] L) Q) (compT qs)) := by
 refine ⟨compT qs, compT_asc hq, fun p => (compT_mem qs p).trans (hm p), ?_⟩
 rw [renL_eq, renL_eq, seen_still 33 Q _ h1, seen_still 34 Q _ h2]
 rfl
end KT
end
section
open Go.RowKit Go.Maps
namespace KT
def ents2 (s : List Int) : List (Int × Int) := s.zipIdx.map fun p => (p.1, (p.2 : Int))
theorem ents2_keys (s : List Int) : (ents2 s).map Prod.fst = s := by
 unfold ents2
 rw [List.map_map]
 exact List.zipIdx_map_fst 0 s
theorem ents2_at {s : List Int} {k : Nat} {n : Int} (h : s[k]? = some n) : (ents2 s)[k]? = some (n, (k : Int)) := by
 unfold ents2
 rw [List.getElem?_map, List.getElem?_zipIdx, h]
 simp
theorem ents2_len (s : List Int) : (ents2 s).length = s.length := by simp [ents2]
theorem ents2_get {s : List Int} (hd : s.Nodup) (n : Int) : AL.get (ents2 s) n = if n ∈ s then some ((s.idxOf n : Nat) : Int) else none := by
 split
 · rename_i h
   have hk := List.idxOf_lt_length_iff.2 h
   refine AL.get_some (j := s.idxOf n) (by rw [ents2_keys]; exact hd) (ents2_at ?_)
   rw [List.getElem?_eq_getElem hk]
   simp
 · rename_i h
   refine AL.get_none fun p hp e => h ?_
   rw [← ents2_keys s]
   exact List.mem_map.2 ⟨p, hp, e⟩
theorem ents2_put {s : List Int} {n : Int} (h : n ∉ s) : AL.put (ents2 s) n (s.length : Int) = ents2 (s ++ [n]) := by
 rw [AL.put_none (fun p hp e => h (by rw [← ents2_keys s]; exact List.mem_map.2 ⟨p, hp, e⟩))]
 unfold ents2
 rw [List.zipIdx_append]
 simp
def ekU (n : Int) : Value := .int .u32 n
theorem ekU_inj : ∀ a b, ekU a = ekU b → a = b := fun a b h => by simpa [ekU] using h
theorem u32Keyed : Keyed Tryz.prog 26 := int_keyed Tryz.underlying26
theorem keyOf_u32 {k : Int} (h : 0 ≤ k ∧ k < 4294967296) : keyOf Tryz.prog 26 (ekU k) = some (.int .u32 k) := keyOf_int_mk Tryz.underlying26 (lit_u32 h)
def NumAt (w : World) (b : Nat) (s : List Int) : Prop := s.Nodup ∧ MapAt Tryz.prog 26 ekU IntI w b (ents2 s)
theorem NumAt.lt {w : World} {b : Nat} {s : List Int} (h : NumAt w b s) : b < w.heap.size := h.2.lt
theorem NumAt.keep {w w' : World} {b : Nat} {s : List Int} (h : NumAt w b s) (hb : w'.heap[b]? = w.heap[b]?) : NumAt w' b s := ⟨h.1, h.2.keep hb fun _ _ _ h => h⟩
theorem NumAt.len_run {w : World} {b : Nat} {s : List Int} (h : NumAt w b s) : (Builtin.len_ #[82] 3 #[.map (some b)]).run Tryz.prog w = .ok (.int .i64 (s.length : Int)) w := by
 obtain ⟨hd, es, clock, hb, hst, hl, _⟩ := h
 rw [ents2_len] at hl
 have hg : (getObj b).run Tryz.prog w = .ok (.map es clock) w := by simp [getObj, Sem.run, hb]
 have hsz : es.size = s.length := by simpa using hl
 simp [Builtin.len_, run_underlying Tryz.underlying82, hg, Result.andThen, goInt, hsz]
theorem NumAt.put {w : World} {b : Nat} {s : List Int} {n : Int} (h : NumAt w b s) (hn : 0 ≤ n ∧ n < 4294967296) (hm : n ∉ s) :
 ∃ w', (Instr.mapUpdate 82 (.map (some b)) (.int .u32 n) (.int .i64 (s.length : Int))).run Tryz.prog w = .ok () w' ∧ w.grownBy w' (some b) ∧ NumAt w' b (s ++ [n]) := by
 obtain ⟨w', h1, h2, h3, h4⟩ := h.2.update u32Keyed ekU_inj Tryz.underlying82 (keyOf_u32 hn) (.int .i64 (s.length : Int))
 refine ⟨w', h1, h2, ?_, ?_⟩
 · rw [List.nodup_append]
   exact ⟨h.1, by simp, fun a ha c hc e => by simp at hc; subst hc e; exact hm ha⟩
 · have := h4 IntI (s.length : Int) (fun _ _ _ _ h => h) rfl
   rw [ents2_put hm] at this
   exact this
theorem kof_any (b : Nat) (s : List Int) (n : Int) (W : World) (h : NumAt W b s) (hn : 0 ≤ n ∧ n < 4294967296) (hs : s.length ≤ 1000000) :
 Calls Tryz.prog 60 #[.map (some b), .int .u32 n] W fun e w' => e = .returned (.int .i64 (((meet s n).idxOf n : Nat) : Int)) ∧ NumAt w' b (meet s n) ∧ W.grownBy w' (some b) := by
 have hz : ∀ w, (zeroValue 3).run Tryz.prog w = .ok (.int .i64 0) w := fun w => by go_simp
 obtain ⟨u, _, hlook, hlv⟩ := h.2.lookup (k := n) u32Keyed ekU_inj Tryz.underlying82 (hz W) (keyOf_u32 hn)
 rw [ents2_get h.1] at hlook hlv
 unfold ekU at hlook
 by_cases hm : n ∈ s
 · rw [if_pos hm] at hlook hlv
   rcases hlv with ⟨hc, _⟩ | ⟨a, hc, hu⟩
   · cases hc
   · cases hc
     have hu : u = .int .i64 ((s.idxOf n : Nat) : Int) := hu
     subst hu
     have e : meet s n = s := by unfold meet; rw [if_pos hm]
     go_enter Tryz.func60, Tryz.ntmps60
     go_wp2
     go_ret
     rw [e]
     exact ⟨rfl, h, ⟨rfl, rfl, rfl, Nat.le_refl _, fun _ _ _ => rfl⟩⟩
 · rw [if_neg hm] at hlook hlv
   rcases hlv with ⟨_, rfl⟩ | ⟨a, hc, hu⟩
   · have e : meet s n = s ++ [n] := by unfold meet; rw [if_neg hm]
     obtain ⟨w1, hupd, hg, h1⟩ := h.put hn hm
     have hl0 := h.len_run
     have hl1 := h1.len_run
     have H1 := kH h1
     have Hg := kH hg
     have hix : (s ++ [n]).idxOf n = s.length := by rw [List.idxOf_append, if_neg hm]; simp
     have Hix := kH hix
     rw [List.length_append, List.length_singleton] at hl1
     clear h h1 hg hix
     go_enter Tryz.func60, Tryz.ntmps60
     go_wp2
     go_ret
     rw [Hix.out]
     exact ⟨rfl, H1.out, Hg.out⟩
   · cases hc
end KT
end
section
open Go.RowKit Go.Maps
namespace KT
open Go.Lib (itoa)
theorem knumbers_any {l : List Int} {A : Option Addr} {n cn : Nat} {W : World} (hT : Tens W) (hs : SlAt (IntR .i64) W A n l) (hl : ∀ x ∈ l, I64 x) (hne : l ≠ []) (hn : n ≤ 1000000) :
 Calls Tryz.prog 65 #[.slice A n cn] W fun e w' => e = .returned (.string ⟨(nums l).toArray⟩) ∧ Below W.heap.size W w' := by
 have hlen := hs.len
 have Hs := kH hs
 have HT := kH hT
 have Hl := kH hl
 have Hne := kH hne
 clear hs hT hl hne
 go_enter Tryz.func65, Tryz.ntmps65
 go_wp2
 go_loopg [3, 8] (n + 1) (fun gg s3 s8 wr => ∃ (j : Nat) (v : Value), j ≤ n ∧ s3 = v ∧ s8 = .int .i64 (j : Int) ∧ gg + j = n + 1 ∧ Hid (OwnAt wr 9 1 v j (svs (l.take j))) ∧ Hid (Below W.heap.size W wr) ∧ Hid (∀ i, v.ownBlock = some i → W.heap.size ≤ i))
 case atStart => exact ⟨0, .slice none 0 0, Nat.zero_le _, rfl, rfl, rfl, kH (OwnAt.nil_ _ _ _), kH (Below.refl _ _), kH (fun i e => by simp [Value.ownBlock] at e)⟩
 case round =>
  obtain ⟨j, v, hj, rfl, rfl, hgk, Ho, Hb, Hnw⟩ := hrel
  have Hgk := kH hgk
  clear hgk
  obtain ⟨Av, cv, hv⟩ := Ho.out.form
  subst hv
  by_cases hjl : j < n
  · obtain ⟨x, ba, off, u, hx, rfl, hba, hcell, rfl⟩ := (Hs.out.below (monoInt _) Hb.out).at_ hjl
    have Hx := kH hx
    have Hi := kH (Hl.out x (List.mem_of_getElem? hx))
    clear hx hba
    have Hs2 := kH (show W.heap.size ≤ wr.heap.size from Hb.out.size)
    have HTr := kH (HT.out.below Hb.out)
    go_wp2_with (first
     | (go_at_call 86; refine (kItoa_any Hi.out HTr.out).mono ?_; rintro e w2 ⟨rfl, hb2⟩; have Hb2 := kH hb2; have Ho2 := kH (Ho.out.below hb2 (fun g hg => Ho.out.lt g hg)); clear hb2)
     | (at_builtin; refine wpList_append_one' rfl (.tmp 12) (.tmp 15) 106 rfl 9 (.string ByteArray.empty) 16 Tryz.underlying106 infoS rfl _ j _ rfl Ho2.out (.string ⟨(itoa x).toArray⟩) rfl 9 w2.heap.size rfl rfl (by omega) (by omega) ?_; intro v' w5 hown' hgr hat; have Hown' := kH hown'; have Hgr := kH hgr; have Hat := kH hat; clear hown' hgr hat))
    go_roundg (gk - 1)
    case measure => have := Hgk.out; omega
    case rel =>
     have := Hgk.out
     have h2s := Hb2.out.size
     have hsz := Hs2.out
     refine ⟨j + 1, v', by omega, rfl, by go_num, by omega, kH ?_, kH (((Hb.out.trans (Hb2.out.mono hsz)).alloc (by omega) _).grown Hgr.out (by simp; omega) (fun g hg => Hnw.out g hg)), kH fun i hi => ?_⟩
     · rw [List.take_add_one, Hx.out, Option.toList_some, svs_snoc]
       exact Hown'.out
     · rcases Hat.out with e | e
       · exact Hnw.out i (e ▸ hi)
       · rw [e] at hi; injection hi with hi; omega
  · obtain rfl : j = n := by omega
    have Ho' := kH (show OwnAt wr 9 1 (.slice Av j cv) j ((l.map itoa).map fun l => Value.string ⟨l.toArray⟩) from by
     have h := Ho.out
     rw [List.take_of_length_le (by omega)] at h
     exact h)
    have Hjl := kH (show (jn 44 (l.map itoa)).length ≤ 140737488355328 from by have := nums_len Hl.out; unfold nums at this; omega)
    have Hn2 := kH (show l.map itoa ≠ [] from by simpa using Hne.out)
    go_wp2_with (go_at_call 127; refine (kJoin_any Hn2.out 44 Ho'.out Hjl.out (by omega)).mono ?_; rintro e w2 ⟨rfl, hb2⟩; have Hb2 := kH hb2; clear hb2)
    go_ret
    exact ⟨rfl, Hb.out.trans (Hb2.out.mono Hb.out.size)⟩
end KT
end
end Go.Proofs.YtbiopedpceddeaaGreatDoor
