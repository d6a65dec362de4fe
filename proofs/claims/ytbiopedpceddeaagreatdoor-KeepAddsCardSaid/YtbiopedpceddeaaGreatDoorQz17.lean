/- Part. -/
import Derived.Test.YtbiopedpceddeaaGreatDoorQz15
import Derived.Test.YtbiopedpceddeaaGreatDoorQz16
import Derived.Lib.ConvBytes
set_option linter.unusedVariables false
set_option linter.unusedSimpArgs false
set_option maxRecDepth 100000
set_option maxHeartbeats 16000000
namespace Go.Proofs.YtbiopedpceddeaaGreatDoor
section
open Go.RowKit
namespace KT
def RlR (W : World) (us : List Value) (r : R.Rl) : Prop :=
 ∃ (nl cl nr cr np cp : Nat) (AL AR AP : Option Addr), us = [.slice AL nl cl, .slice AR nr cr, .slice AP np cp] ∧ RlAt W r nl nr np AL AR AP
theorem monoRl : MonoL RlR := fun w w' us r hb ⟨nl, cl, nr, cr, np, cp, AL, AR, AP, e, h⟩ => ⟨nl, cl, nr, cr, np, cp, AL, AR, AP, e, h.below hb⟩
def RlX (N : Nat → Prop) (w : World) (us : List Value) (r : R.Rl) : Prop :=
 ∃ (nl cl nr cr np cp : Nat) (AL AR AP : Option Addr), us = [.slice AL nl cl, .slice AR nr cr, .slice AP np cp] ∧ ∀ w', Kpm N w w' → RlAt w' r nl nr np AL AR AP
section
variable {N N' F F' : Nat → Prop} {w w' W : World} {us : List Value} {r : R.Rl} {v : Value} {rs : List R.Rl} {B : Nat}
theorem RlX.now (h : RlX N w us r) : RlR w us r := by
 obtain ⟨nl, cl, nr, cr, np, cp, AL, AR, AP, e, h⟩ := h
 exact ⟨nl, cl, nr, cr, np, cp, AL, AR, AP, e, h w (Kpm.refl _ _)⟩
theorem RlX.step (h : RlX N w us r) (k : Kpm N w w') (hN : ∀ i, i < w.heap.size → N' i → N i) : RlX N' w' us r := by
 obtain ⟨nl, cl, nr, cr, np, cp, AL, AR, AP, e, h⟩ := h
 exact ⟨nl, cl, nr, cr, np, cp, AL, AR, AP, e, fun w2 h2 => h w2 (k.trans h2 hN)⟩
theorem RlX.len (h : RlX N w us r) : us.length = 3 := by
 obtain ⟨nl, cl, nr, cr, np, cp, AL, AR, AP, rfl, h⟩ := h
 rfl
theorem RlX.one (h : RlX N w us r) : ∀ u ∈ us, u.oneCell' = true := by
 obtain ⟨nl, cl, nr, cr, np, cp, AL, AR, AP, rfl, h⟩ := h
 intro u hu
 simp only [List.mem_cons, List.not_mem_nil, or_false] at hu
 rcases hu with rfl | rfl | rfl <;> rfl
theorem own_kpm {T : TypeId} {s n : Nat} {xs : List Value} (h : OwnAt w T s v n xs) (hB : ∀ g, v.ownBlock = some g → B ≤ g) (k : Kpm N w w') (hN : ∀ i, i < w.heap.size → N i → i < B) : OwnAt w' T s v n xs :=
 h.same fun g hg => k.block g (h.lt g hg) fun hn => by
  have h1 := hB g hg
  have h2 := hN g (h.lt g hg) hn
  omega
theorem ownR_kpm {nds : List T.Nd} (h : OwnR (NdF B) B w v nds) (k : Kpm N w w') (hN : ∀ i, i < w.heap.size → N i → i < B) : OwnR (NdF B) B w' v nds := by
 obtain ⟨cells, h1, h2, h3⟩ := h
 refine ⟨cells, own_kpm h1 h3 k hN, fun j x hx => ?_, h3⟩
 obtain ⟨A, c, e1, e2, e3, e4, e5⟩ := h2 j x hx
 exact ⟨A, c, e1, own_kpm e2 e5 k hN, e3, e4, e5⟩
theorem ownC_kpm {cs : List R.Cd} (h : OwnC B w v cs) (k : Kpm N w w') (hN : ∀ i, i < w.heap.size → N i → i < B) : OwnC B w' v cs := by
 obtain ⟨us, h1, h2, h3⟩ := h
 exact ⟨us, own_kpm h1 h3 k hN, fun j x hx => h2 j x hx, h3⟩
theorem RlX.own {v1 v2 v3 : Value} (h : OwnRl B w v1 v2 v3 r) (hl : R.flr r.left) (hr : R.flr r.right) (hN : ∀ i, i < w.heap.size → N i → i < B) : RlX N w [v1, v2, v3] r := by
 obtain ⟨A1, c1, e1⟩ := h.ol.form
 obtain ⟨A2, c2, e2⟩ := h.or_.form
 obtain ⟨A3, c3, e3⟩ := h.op.form
 refine ⟨_, c1, _, c2, _, c3, A1, A2, A3, by rw [e1, e2, e3], fun w2 k => ?_⟩
 subst e1 e2 e3
 exact ⟨(ownR_kpm h.ol k hN).stAt (ndF_rel _) rfl, (ownR_kpm h.or_ k hN).stAt (ndF_rel _) rfl, (ownC_kpm h.op k hN).stAt rfl, hl, hr⟩
def OwnL (F : Nat → Prop) (w : World) (v : Value) (rs : List R.Rl) : Prop :=
 ∃ cells, OwnAt w 33 3 v rs.length cells ∧ ∀ (k : Nat) (r : R.Rl), rs[k]? = some r → RlX (fun i => F i ∨ v.ownBlock = some i) w ((cells.drop (k * 3)).take 3) r
theorem OwnL.nil_ (F : Nat → Prop) (w : World) : OwnL F w (.slice none 0 0) [] := ⟨[], OwnAt.nil_ _ _ _, fun k r h => by simp at h⟩
theorem OwnL.form (h : OwnL F w v rs) : ∃ A c, v = .slice A rs.length c := by
 obtain ⟨cells, h1, _⟩ := h
 exact h1.form
theorem OwnL.lt (h : OwnL F w v rs) : ∀ g, v.ownBlock = some g → g < w.heap.size := by
 obtain ⟨cells, h1, _⟩ := h
 exact h1.lt
theorem OwnL.step (h : OwnL F w v rs) (k : Kpm N w w') (hN : ∀ i, i < w.heap.size → N i → F i) (hv : ∀ g, v.ownBlock = some g → ¬ N g) (hF : ∀ i, i < w.heap.size → F' i → F i) : OwnL F' w' v rs := by
 obtain ⟨cells, h1, h2⟩ := h
 exact ⟨cells, h1.same fun g hg => k.block g (h1.lt g hg) (hv g hg), fun j r hr => (h2 j r hr).step (k.weak fun i hi hn => .inl (hN i hi hn)) fun i hi h => h.imp (hF i hi) id⟩
theorem OwnL.below (h : OwnL F w v rs) (hb : Below w.heap.size w w') : OwnL F w' v rs :=
 h.step (N := fun _ => False) (Kpm.of_below hb _) (fun _ _ h => h.elim) (fun _ _ h => h) fun _ _ h => h
theorem OwnL.stAt {A : Option Addr} {n c : Nat} (h : OwnL F w (.slice A n c) rs) (hn : rs.length = n) : StAt 3 RlR w A n rs := by
 obtain ⟨cells, h1, h2⟩ := h
 rw [hn] at h1
 exact h1.stAt hn fun k x hx => (h2 k x hx).now
end
theorem infoRule : (Tryz.prog.info? 33).map (fun i => (i.zero, i.size, i.bytes)) = some (some (.agg #[.slice none 0 0, .slice none 0 0, .slice none 0 0]), 3, 72) := by kernel_rfl
theorem wpList_append_rule {F : Nat → Prop} {w : World} {ops : Array Oper} {rest : List Oper} {o : Oper} {a : Act} {Q : Exit → Act → World → Prop} (hgd : o.guard = none) (sx x : Operand)
 (ho : o.op = .call { callee := .builtin .append, args := #[sx, x], argTypes := #[40, 40] })
 (v : Value) (rs : List R.Rl) (hs : a.eval sx = v) (hown : OwnL F w v rs) (us : List Value) (r : R.Rl) (hr : RlX (fun i => F i ∨ v.ownBlock = some i) w us r) (p : Nat) (hp : p = w.heap.size)
 (hx : a.eval x = .slice (some ⟨p, 0, none⟩) 1 1) (hn : rs.length ≤ 900000)
 (h : ∀ v' w', OwnL F w' v' (rs ++ [r]) → (w.alloc (.cells us.toArray 33)).grownBy w' v.ownBlock → (v'.ownBlock = v.ownBlock ∨ v'.ownBlock = some (w.heap.size + 1)) → wpList Tryz.prog ops Q rest (a.put o.dst v') w') :
 wpList Tryz.prog ops Q (o :: rest) a (w.alloc (.cells us.toArray 33)) := by
 subst hp
 have hl := hr.len
 have hba : Below w.heap.size w (w.alloc (.cells us.toArray 33)) := al0
 obtain ⟨cells, h1, h2⟩ := id hown
 have hcl := h1.1
 obtain ⟨i, hi, hz, hsz, hby⟩ := info_parts infoRule
 refine wpList_append_at _ hgd sx x 40 ho 33 i _ 3 72 Tryz.underlying40 hi hz hsz hby rfl v rs.length cells hs (h1.below hba h1.lt) ⟨w.heap.size, 0, none⟩ 1 1 us hx (by rw [hl]) (fun j u hu => by
  obtain ⟨ad, e, h⟩ := src_new w us 33 j u hu
  cases e
  exact h) hr.one (by simp only [maxLen]; omega) (by omega) ?_
 intro v' w' hown' hgr hat
 have hat' : v'.ownBlock = v.ownBlock ∨ v'.ownBlock = some (w.heap.size + 1) := by simpa using hat
 have hk : Kpm (fun i => F i ∨ v.ownBlock = some i) w w' := (Kpm.of_below hba _).trans (Kpm.grown hgr fun g e => Or.inr e) fun i _ h => h
 have hN : ∀ i, i < w.heap.size → (F i ∨ v'.ownBlock = some i) → (F i ∨ v.ownBlock = some i) := fun i hi h => by
  rcases h with h | h
  · exact .inl h
  · rcases hat' with e | e
    · exact .inr (e ▸ h)
    · rw [e] at h
      injection h with h
      omega
 refine h v' w' ⟨cells ++ us, by rw [List.length_append]; exact hown', fun k y hy => ?_⟩ hgr hat'
 rcases Nat.lt_or_ge k rs.length with hk2 | hk2
 · rw [List.getElem?_append_left hk2] at hy
   have e : ((cells ++ us).drop (k * 3)).take 3 = (cells.drop (k * 3)).take 3 := by
    rw [List.drop_append_of_le_length (by omega), List.take_append_of_le_length (by rw [List.length_drop]; omega)]
   rw [e]
   exact (h2 k y hy).step hk hN
 · rw [List.getElem?_append_right hk2] at hy
   have hk0 : k = rs.length := by
    rcases Nat.eq_zero_or_pos (k - rs.length) with e | e
    · omega
    · rw [List.getElem?_eq_none (by simp; omega)] at hy; cases hy
   subst hk0
   simp at hy
   subst hy
   have e : ((cells ++ us).drop (rs.length * 3)).take 3 = us := by
    rw [← hcl, List.drop_left, List.take_of_length_le (by omega)]
   rw [e]
   exact hr.step hk hN
end KT
end
section
open Go.RowKit Go.Lib
namespace KT
theorem bytes_eq {k j : List UInt8} : ((⟨k.toArray⟩ : ByteArray) = ⟨j.toArray⟩) ↔ k = j := by
 constructor
 · intro h
   injection h with h
   simpa using h
 · rintro rfl
   rfl
structure Wrt (r : R.Rl) : Prop where
 nl : r.left.length ≤ 100
 nr : r.right.length ≤ 100
 np : r.pre.length ≤ 100
 l : ∀ x ∈ r.left, NdI x
 q : ∀ x ∈ r.right, NdI x
 p : ∀ c ∈ r.pre, CdI c
theorem wrt_of_valid {W : World} {r : R.Rl} {us : List Value} (h : RlR W us r) (hv : R.rvalid r = 0) : Wrt r := by
 obtain ⟨nl, cl, nr, cr, np, cp, AL, AR, AP, e, h⟩ := h
 have hok := R.rok_of hv
 exact ⟨by have := hok.llen; omega, by have := hok.rlen; omega, by have := hok.plen; omega, node_ndI hok.lp hok.llen (nd_rng h.sl), node_ndI hok.rp hok.rlen (nd_rng h.sr), cond_cdI h hok⟩
theorem ndS_of {p : List T.Nd} {right : Bool} (hp : ∀ k x, p[k]? = some x → R.pnode p right k x = true) (hl : p.length ≤ 12) (hi : ∀ x ∈ p, 0 ≤ x.imm ∧ x.imm < 4294967296) : ∀ x ∈ p, NdS x := fun x hx => by
 obtain ⟨k, hk⟩ := List.mem_iff_getElem?.1 hx
 have h := hp k x hk
 have h2 := R.par_bd (R.pnode_len h).2
 have h3 := R.pnode_w h
 have h4 := R.flOk_bd (R.pnode_flags h)
 have hk2 := (List.getElem?_eq_some_iff.1 hk).1
 refine ⟨⟨by omega, by omega⟩, ⟨by omega, by omega⟩, ⟨by omega, by omega⟩, hi x hx, fun a ha => ?_⟩
 have := R.pnode_ord hp k x hk a ha
 exact ⟨by omega, by omega⟩
theorem rls_of_valid {W : World} {r : R.Rl} {us : List Value} (h : RlR W us r) (hv : R.rvalid r = 0) : RlS r := by
 obtain ⟨nl, cl, nr, cr, np, cp, AL, AR, AP, e, h⟩ := h
 have hok := R.rok_of hv
 refine ⟨ndS_of hok.lp hok.llen (nd_rng h.sl), ndS_of hok.rp hok.rlen (nd_rng h.sr), fun c hc => ?_⟩
 have hcd := List.all_eq_true.1 hok.cd c hc
 have hi := (cond_cdI h hok c hc).imm
 unfold R.cdOk at hcd
 simp only [Bool.and_eq_true, decide_eq_true_eq] at hcd
 exact ⟨⟨by omega, by omega⟩, ⟨by omega, by omega⟩, hi⟩
end KT
end
section
open Go.RowKit Go.Maps Go.Lib
namespace KT
theorem sumT_snoc (n : Int) (t : List UInt8) (b : UInt8) : sumT n (t ++ [b]) = sumStep (sumT n t) b := by unfold sumT; rw [List.foldl_append]; rfl
theorem tmod_emod (n : Int) : (if n.tmod 1000003 < 0 then n.tmod 1000003 + 1000003 else n.tmod 1000003) = n % 1000003 := by
 rw [Int.tmod_eq_emod]
 split <;> split <;> omega
theorem rSum_any {n : Int} (hn : I64 n) {t : List UInt8} (ht : t.length ≤ 4611686018427387904) {W : World} :
 Calls Tryz.prog 30 #[.int .i64 n, .string ⟨t.toArray⟩] W fun e w' => e = .returned (.int .i64 (sumT n t)) ∧ W = w' := by
 obtain ⟨n0, n1⟩ := hn
 have hz : (1000003 : Int) ≠ 0 := by decide
 go_enter Tryz.func30, Tryz.ntmps30
 go_upto_if 10 with (fail)
 obtain ⟨m, hm⟩ : ∃ m, n.tmod 1000003 = m := ⟨_, rfl⟩
 have Hm := kH (show (if m < 0 then m + 1000003 else m) = n % 1000003 from by rw [← hm]; exact tmod_emod n)
 have hr : -1000003 < m ∧ m < 1000003 := by
  rw [← hm, Int.tmod_eq_emod]
  split <;> omega
 rw [hm]
 clear hm
 go_cut [5] (fun s5 wx => s5 = .int .i64 (n % 1000003) ∧ W = wx)
 case first =>
  by_cases hl : m < 0
  · have Hl := kH hl
    go_wp2_with fail
    go_meet
    have := Hm.out
    rw [if_pos Hl.out] at this
    exact ⟨by rw [← this], rfl⟩
  · have Hl := kH hl
    go_wp2_with fail
    go_meet
    have := Hm.out
    rw [if_neg (show ¬ m < 0 from by have := Hl.out; omega)] at this
    exact ⟨by rw [← this], rfl⟩
 case rest =>
  obtain ⟨rfl, rfl⟩ := hcut
  go_wp2_with fail
  go_loopg [5, 6] (t.length + 1) (fun gg s5 s6 wr => ∃ j : Nat, j ≤ t.length ∧ s5 = .int .i64 (sumT n (t.take j)) ∧ s6 = .int .i64 (j : Int) ∧ gg + j = t.length + 1 ∧ W = wr)
  case atStart => exact ⟨0, Nat.zero_le _, rfl, rfl, by omega, rfl⟩
  case round =>
   obtain ⟨j, hj, rfl, rfl, hgk, rfl⟩ := hrel
   have Hgk := kH hgk
   clear hgk
   obtain ⟨s, hs⟩ : ∃ s, s = sumT n (t.take j) := ⟨_, rfl⟩
   have hsr : 0 ≤ s ∧ s < 1000003 := by rw [hs]; exact sumT_range _ _
   have Hs := kH hs
   rw [← hs]
   clear hs
   by_cases hjn : j < t.length
   · have hb := List.getElem?_eq_getElem hjn
     obtain ⟨b, hbe⟩ : ∃ b, b = t[j] := ⟨_, rfl⟩
     rw [← hbe] at hb
     have hbn : b.toNat < 256 := b.toNat_lt
     have Hb := kH hb
     have Hbe := kH hbe
     have Hsr := kH hsr
     have Hbn := kH hbn
     clear hb hbe
     go_wp2
     go_roundg (gk - 1)
     case measure => have := Hgk.out; omega
     case rel =>
      have := Hgk.out
      refine ⟨j + 1, by omega, ?_, by go_num, by omega, rfl⟩
      rw [List.take_add_one, Hb.out, Option.toList_some, sumT_snoc, ← Hs.out]
      have key : (wrap64 (wrap64 (s * 257 + wrap64 (b.toNat : Int)) + 1)).tmod 1000003 = sumStep s b := by
       obtain ⟨h0, h1⟩ := Hsr.out
       have h2 := Hbn.out
       rw [show wrap64 (b.toNat : Int) = b.toNat from by unfold wrap64; omega, show wrap64 (s * 257 + (b.toNat : Int)) = s * 257 + b.toNat from by unfold wrap64; omega, show wrap64 (s * 257 + (b.toNat : Int) + 1) = s * 257 + b.toNat + 1 from by unfold wrap64; omega, Int.tmod_eq_emod_of_nonneg (by omega)]
       rfl
      rw [Hbe.out] at key ⊢
      exact congrArg (Value.int .i64) key
   · obtain rfl : j = t.length := by omega
     have Hf := kH (show sumT n t = s from by rw [Hs.out, List.take_length])
     go_wp2
     go_ret
     exact ⟨by rw [Hf.out]; rfl, rfl⟩
end KT
end
section
open Go.RowKit Go.Maps Go.Lib
namespace KT
theorem tmod_emod2 (n : Int) : ((n.tmod 1000003) + 1000003).tmod 1000003 = n % 1000003 := by
 rw [Int.tmod_eq_emod (a := n)]
 split <;> rw [Int.tmod_eq_emod_of_nonneg (by omega)] <;> omega
theorem bytes_below (w : World) (e : TypeId) (s : ByteArray) : Below w.heap.size w (Lib.bytesWorld w e s) :=
 ⟨rfl, rfl, rfl, by rw [Lib.bytesWorld_size]; omega, fun k hk => Lib.bytesWorld_at_old w e s k hk⟩
theorem Sum_any {n : Int} (hn : I64 n) {t : List UInt8} (ht : t.length ≤ 140737488355328) {W : World} :
 Calls Tryz.prog 29 #[.int .i64 n, .string ⟨t.toArray⟩] W fun e w' => e = .returned (.int .i64 (sumT n t)) ∧ Below W.heap.size W w' := by
 obtain ⟨n0, n1⟩ := hn
 obtain ⟨m, hm⟩ : ∃ m, n.tmod 1000003 = m := ⟨_, rfl⟩
 have hr : -1000003 < m ∧ m < 1000003 := by
  rw [← hm, Int.tmod_eq_emod]
  split <;> omega
 have Hm := kH (show (m + 1000003).tmod 1000003 = n % 1000003 from by rw [← hm]; exact tmod_emod2 n)
 have Hmm := kH hm
 clear hm
 go_enter Tryz.func29, Tryz.ntmps29
 go_upto_region 2 with (fail)
 (try rw [Hmm.out])
 have hw : wrap64 (m + 1000003) = m + 1000003 := by unfold wrap64; omega
 (try rw [hw])
 (try rw [Hm.out])
 have hcv := fun w => Lib.run_convert_string_bytes (P := Tryz.prog) w 9 117 5 ⟨t.toArray⟩ Tryz.underlying9 Tryz.underlying117 Tryz.underlying5
 obtain ⟨W2, hW2⟩ : ∃ W2, W2 = Lib.bytesWorld W 5 ⟨t.toArray⟩ := ⟨_, rfl⟩
 have Hb2 := kH (show Below W.heap.size W W2 from by rw [hW2]; exact bytes_below _ _ _)
 have Hc := kH (show ∀ (j : Nat) (b : UInt8), t[j]? = some b → W2.cell? ⟨W.heap.size, j, none⟩ = some (.int .u8 b.toNat) from fun j b hb => by
  have hj := (List.getElem?_eq_some_iff.1 hb).1
  have h := Lib.bytesWorld_cell W 5 ⟨t.toArray⟩ j (show j < t.toArray.size from by simpa using hj)
  rw [hW2, h]
  simp [List.getD, hb])
 go_wp2_with fail
 (try rw [← hW2])
 clear hcv hW2
 go_loopg [5, 15] (t.length + 1) (fun gg s5 s6 wr => ∃ j : Nat, j ≤ t.length ∧ s5 = .int .i64 (sumT n (t.take j)) ∧ s6 = .int .i64 (j : Int) ∧ gg + j = t.length + 1 ∧ W2 = wr)
 case atStart => exact ⟨0, Nat.zero_le _, rfl, rfl, by omega, rfl⟩
 case round =>
  obtain ⟨j, hj, rfl, rfl, hgk, rfl⟩ := hrel
  have Hgk := kH hgk
  clear hgk
  obtain ⟨s, hs⟩ : ∃ s, s = sumT n (t.take j) := ⟨_, rfl⟩
  have hsr : 0 ≤ s ∧ s < 1000003 := by rw [hs]; exact sumT_range _ _
  have Hs := kH hs
  rw [← hs]
  clear hs
  by_cases hjn : j < t.length
  · have hb := List.getElem?_eq_getElem hjn
    obtain ⟨b, hbe⟩ : ∃ b, b = t[j] := ⟨_, rfl⟩
    rw [← hbe] at hb
    have hbn : b.toNat < 256 := b.toNat_lt
    have Hb := kH hb
    have cj := Hc.out j b hb
    obtain ⟨z, hz⟩ : ∃ z : Int, z = (b.toNat : Int) := ⟨_, rfl⟩
    rw [← hz] at cj
    have Hz := kH hz
    have Hsr := kH hsr
    have Hbn := kH hbn
    clear hb hbe hz
    go_wp2
    go_roundg (gk - 1)
    case measure => have := Hgk.out; omega
    case rel =>
     have := Hgk.out
     refine ⟨j + 1, by omega, ?_, by go_num, by omega, rfl⟩
     rw [List.take_add_one, Hb.out, Option.toList_some, sumT_snoc, ← Hs.out]
     have key : (wrap64 (wrap64 (s * 257 + wrap64 (b.toNat : Int)) + 1)).tmod 1000003 = sumStep s b := by
      obtain ⟨h0, h1⟩ := Hsr.out
      have h2 := Hbn.out
      rw [show wrap64 (b.toNat : Int) = b.toNat from by unfold wrap64; omega, show wrap64 (s * 257 + (b.toNat : Int)) = s * 257 + b.toNat from by unfold wrap64; omega, show wrap64 (s * 257 + (b.toNat : Int) + 1) = s * 257 + b.toNat + 1 from by unfold wrap64; omega, Int.tmod_eq_emod_of_nonneg (by omega)]
      rfl
     rw [← Hz.out] at key
     exact congrArg (Value.int .i64) key
  · obtain rfl : j = t.length := by omega
    have Hf := kH (show sumT n t = s from by rw [Hs.out, List.take_length])
    go_wp2
    go_ret
    exact ⟨by rw [Hf.out]; rfl, Hb2.out⟩
end KT
end
section
open Go.RowKit Go.Maps Go.Lib
namespace KT
theorem rnumber_any {t : List UInt8} (ht : t.length ≤ 4611686018427387904) {W : World} :
 Calls Tryz.prog 142 #[.string ⟨t.toArray⟩] W fun e w' => e = .returned (.int .i64 (rnum t)) ∧ W = w' := by
 go_enter Tryz.func142, Tryz.ntmps142
 go_wp2_with fail
 go_loopg [3, 4] (t.length + 1) (fun gg s3 s4 wr => ∃ (j : Nat) (n : Int), j ≤ t.length ∧ s3 = .int .i64 n ∧ s4 = .int .i64 (j : Int) ∧ gg + j = t.length + 1 ∧ 0 ≤ n ∧ n ≤ 50000000000 ∧ Hid (rnum t = rnumFrom n (t.drop j)) ∧ W = wr)
 case atStart => exact ⟨0, 0, Nat.zero_le _, rfl, rfl, by omega, by omega, by omega, kH rfl, rfl⟩
 case round =>
  obtain ⟨j, n, hj, rfl, rfl, hgk, hn0, hn1, Hn, rfl⟩ := hrel
  have Hgk := kH hgk
  clear hgk
  by_cases hjn : j < t.length
  · have hd : t.drop j = t[j] :: t.drop (j + 1) := List.drop_eq_getElem_cons hjn
    obtain ⟨B, hB⟩ : ∃ B, B = t[j] := ⟨_, rfl⟩
    rw [← hB] at hd
    have hB2 : (⟨t.toArray⟩ : ByteArray)[j]'(show j < t.toArray.size from by simpa using hjn) = B := by rw [hB]; rfl
    have hbn : B.toNat < 256 := B.toNat_lt
    have Hn2 := kH (show rnum t = if B.toNat < 48 ∨ 57 < B.toNat ∨ 4294967296 ≤ n then 0 else rnumFrom (10 * n + ((B.toNat : Int) - 48)) (t.drop (j + 1)) from by rw [Hn.out, hd]; rfl)
    obtain ⟨k, hk⟩ : ∃ k, B.toNat = k := ⟨_, rfl⟩
    rw [hk] at Hn2 hbn
    clear Hn hd hB
    by_cases h1 : k < 48
    · have Hz := kH (show rnum t = 0 from by rw [Hn2.out, if_pos (.inl h1)])
      go_wp2
      go_ret
      exact ⟨by rw [Hz.out]; rfl, rfl⟩
    have q1 : decide ((k : Int) < 48) = false := decide_eq_false (by omega)
    have g1 : ¬ (k : Int) < 48 := by omega
    by_cases h2 : 57 < k
    · have Hz := kH (show rnum t = 0 from by rw [Hn2.out, if_pos (.inr (.inl h2))])
      have q2 : decide (57 < (k : Int)) = true := decide_eq_true (by omega)
      have g2 : 57 < (k : Int) := by omega
      go_wp2
      go_ret
      exact ⟨by rw [Hz.out]; rfl, rfl⟩
    have q2 : decide (57 < (k : Int)) = false := decide_eq_false (by omega)
    have g2 : ¬ 57 < (k : Int) := by omega
    by_cases h3 : 4294967296 ≤ n
    · have Hz := kH (show rnum t = 0 from by rw [Hn2.out, if_pos (.inr (.inr h3))])
      go_wp2
      go_ret
      exact ⟨by rw [Hz.out]; rfl, rfl⟩
    have Hz := kH (show rnum t = rnumFrom (10 * n + ((k : Int) - 48)) (t.drop (j + 1)) from by rw [Hn2.out, if_neg (by omega)])
    have Hk := kH (And.intro h1 (And.intro h2 h3))
    go_wp2
    go_roundg (gk - 1)
    case measure => have := Hgk.out; omega
    case rel =>
     have := Hgk.out
     have hk3 := Hk.out
     refine ⟨j + 1, 10 * n + ((k : Int) - 48), by omega, ?_, by go_num, by omega, by omega, by omega, Hz, rfl⟩
     rfl
  · obtain rfl : j = t.length := by omega
    have Hf := kH (show rnum t = if 4294967296 ≤ n then 0 else n from by
     rw [Hn.out, List.drop_length]
     rfl)
    by_cases h3 : 4294967296 ≤ n
    · have Hz := kH (show rnum t = 0 from by rw [Hf.out, if_pos h3])
      go_wp2
      go_ret
      exact ⟨by rw [Hz.out]; rfl, rfl⟩
    · have Hz := kH (show rnum t = n from by rw [Hf.out, if_neg h3])
      go_wp2
      go_ret
      exact ⟨by rw [Hz.out]; rfl, rfl⟩
end KT
end
section
open Go.RowKit Go.Maps Go.Lib
namespace KT
def ErrAt (W : World) (g : Nat) : Prop := ∃ ev : Value, W.cell? ⟨g, 0, none⟩ = some ev ∧ (ev = .nilIface ∨ ∃ te pe, ev = .iface te pe)
theorem ErrAt.below {W W' : World} {g : Nat} (h : ErrAt W g) (hb : Below W.heap.size W W') : ErrAt W' g := by
 obtain ⟨ev, h1, h2⟩ := h
 obtain ⟨cs, ty, f, hc⟩ := cells_of_cell h1
 exact ⟨ev, (hb.cell (p := ⟨g, 0, none⟩) (gA hc).1).trans h1, h2⟩
theorem pu_cases (t : List UInt8) : (∃ u, parseUintB 32 t = .ok u) ∨ parseUintB 32 t = parseUintB 32 [] ∨ parseUintB 32 t = .range := by
 cases parseUintB 32 t
 · exact .inl ⟨_, rfl⟩
 · exact .inr (.inl rfl)
 · exact .inr (.inr rfl)
theorem number_any {t : List UInt8} (ht : t.length ≤ 140737488355328) {W : World} (h5 : ErrAt W 5) (h6 : ErrAt W 6) :
 Calls Tryz.prog 139 #[.string ⟨t.toArray⟩] W fun e w' => e = .returned (.int .i64 (num t)) ∧ Below W.heap.size W w' := by
 have hsz : (⟨t.toArray⟩ : ByteArray).size = t.length := by show t.toArray.size = _; simp
 have hdl : (⟨t.toArray⟩ : ByteArray).data.toList = t := by simp
 have hnum : num t = match parseUintB 32 t with | .ok u => (u : Int) | _ => 0 := rfl
 have hr := num_range t
 rcases pu_cases t with ⟨u, hp⟩ | hp | hp
 · skip
   have hn : num t = (u : Int) := by rw [hnum, hp]
   have HC := kH (Tryz.strconv_ParseUint_10_at32_ok ⟨t.toArray⟩ (by rw [hsz]; omega) u (by rw [hdl]; exact hp) W)
   have Hn := kH hn
   rw [hn] at hr
   have hw : IntKind.i64.wrap (u : Int) = u := by rw [IntKind.wrap_i64]; omega
   have hw2 : wrap64 (u : Int) = u := by unfold wrap64; omega
   clear hsz hdl hnum hn hp
   go_enter Tryz.func139, Tryz.ntmps139
   go_wp2_with fail
   (with_reducible refine HC.out.mono ?_)
   rintro e w2 ⟨rfl, hb⟩
   have Hb := kH (show Below W.heap.size W w2 from by
    rcases hb with rfl | rfl
    · exact Below.refl _ _
    · exact bytes_below _ _ _)
   clear hb
   go_wp2
   go_ret
   exact ⟨by rw [Hn.out]; rfl, Hb.out⟩
 · have hn : num t = 0 := by rw [hnum, hp]; rfl
   obtain ⟨ev, e1, e2⟩ := h5
   have HC := kH (Tryz.strconv_ParseUint_10_at32_syntax ⟨t.toArray⟩ (by rw [hsz]; omega) (by rw [hdl]; exact hp.trans (by rfl)) ev W e1 e2)
   have Hn := kH hn
   clear hsz hdl hnum hn hp hr
   go_enter Tryz.func139, Tryz.ntmps139
   go_wp2_with fail
   (with_reducible refine HC.out.mono ?_)
   rintro e w2 ⟨N, rfl, _, _, hb⟩
   have Hb := kH hb
   clear hb
   go_wp2
   go_ret
   exact ⟨by rw [Hn.out]; rfl, Hb.out⟩
 · have hn : num t = 0 := by rw [hnum, hp]
   obtain ⟨ev, e1, e2⟩ := h6
   have HC := kH (Tryz.strconv_ParseUint_10_at32_range ⟨t.toArray⟩ (by rw [hsz]; omega) (by rw [hdl]; exact hp) ev W e1 e2)
   have Hn := kH hn
   clear hsz hdl hnum hn hp hr
   go_enter Tryz.func139, Tryz.ntmps139
   go_wp2_with fail
   (with_reducible refine HC.out.mono ?_)
   rintro e w2 ⟨N, rfl, _, _, hb⟩
   have Hb := kH hb
   clear hb
   go_wp2
   go_ret
   exact ⟨by rw [Hn.out]; rfl, Hb.out⟩
end KT
end
section
open Go.RowKit Go.Maps Go.Lib
namespace KT
theorem drop_cut {t : List UInt8} {f i : Nat} {b : UInt8} (hf : f ≤ i) (hb : t[i]? = some b) : t.drop f = (t.drop f).take (i - f) ++ b :: t.drop (i + 1) := by
 have hi := (List.getElem?_eq_some_iff.1 hb).1
 have h1 : (t.drop f).drop (i - f) = b :: t.drop (i + 1) := by
  rw [List.drop_drop, show f + (i - f) = i by omega, List.drop_eq_getElem_cons hi]
  rw [(List.getElem?_eq_some_iff.1 hb).2]
 rw [← h1, List.take_append_drop]
theorem take_snoc {t : List UInt8} {f i : Nat} {b : UInt8} (hf : f ≤ i) (hb : t[i]? = some b) : (t.drop f).take (i + 1 - f) = (t.drop f).take (i - f) ++ [b] := by
 rw [show i + 1 - f = (i - f) + 1 by omega, List.take_add_one, List.getElem?_drop, show f + (i - f) = i by omega, hb]
 rfl
theorem rcut_any {t : List UInt8} {c : UInt8} (ht : t.length ≤ 100000000) {W : World} :
 Calls Tryz.prog 140 #[.string ⟨t.toArray⟩, .int .u8 (c.toNat : Int)] W fun e w' => ∃ v, e = .returned v ∧ WS W w' v (pcs c t).length (pcs c t) := by
 have HS0 := kH (show WS W W (.slice none 0 0) 0 [] from ⟨rfl, OwnAt.nil_ _ _ _, Below.refl _ _, fun i e => by simp [Value.ownBlock] at e⟩)
 have hsz : t.toArray.size = t.length := by simp
 have hcn : c.toNat < 256 := c.toNat_lt
 go_enter Tryz.func140, Tryz.ntmps140
 go_wp2_with fail
 go_loopg [5, 6, 7] (t.length + 2) (fun gg s5 s6 s7 wr => ∃ (f i n : Nat) (v : Value) (ps : List (List UInt8)), f ≤ i ∧ i ≤ t.length + 1 ∧ n ≤ i ∧ s5 = v ∧ s6 = .int .i64 (f : Int) ∧ s7 = .int .i64 (i : Int) ∧ gg + i = t.length + 2 ∧ Hid (WS W wr v n ps) ∧ Hid ((i = t.length + 1 → ps = pcs c t) ∧ (i ≤ t.length → ps ++ pcs c (t.drop f) = pcs c t ∧ c ∉ (t.drop f).take (i - f))))
 case atStart => exact ⟨0, 0, 0, _, [], Nat.le_refl _, by omega, Nat.le_refl _, rfl, rfl, rfl, by omega, HS0, kH ⟨fun h => by omega, fun _ => ⟨rfl, by simp⟩⟩⟩
 case round =>
  obtain ⟨f, i, n, v, ps, hf, hi, hni, rfl, rfl, rfl, hgk, Hws, Hin⟩ := hrel
  have Hgk := kH hgk
  clear hgk
  obtain ⟨Av, cv, hv⟩ := Hws.out.o.form
  subst hv
  by_cases hil : i = t.length + 1
  · have He := kH (Hin.out.1 hil)
    subst hil
    go_wp2
    go_ret
    refine ⟨_, rfl, ?_⟩
    have h := Hws.out
    have hl := h.len
    rw [He.out] at h hl
    rw [hl]
    exact h
  · have hil2 : i ≤ t.length := by omega
    obtain ⟨h1, h2⟩ := Hin.out.2 hil2
    have H1 := kH h1
    have H2 := kH h2
    clear h1 h2
    obtain ⟨p, hp⟩ : ∃ p, p = (t.drop f).take (i - f) := ⟨_, rfl⟩
    have he : (⟨t.toArray⟩ : ByteArray).extract f i = ⟨p.toArray⟩ := by rw [Lib.extract_eq, hp]
    have Hp := kH hp
    rw [← hp] at H2
    clear hp
    by_cases hie : i = t.length
    · subst hie
      have q : ((t.length : Int) == (t.length : Int)) = true := by simp
      go_wp2_with (at_builtin; refine wpList_append_one' rfl (.tmp 25) (.tmp 30) 106 rfl 9 (.string ByteArray.empty) 16 Tryz.underlying106 infoS rfl _ n _ rfl Hws.out.o (.string ⟨p.toArray⟩) rfl 9 wr.heap.size rfl rfl (by omega) (by omega) ?_; intro v' wA hown hgr hat; have HsA := kH (Hws.out.app hown hgr hat); clear hown hgr hat)
      go_roundg (gk - 1)
      case measure => have := Hgk.out; omega
      case rel =>
       have := Hgk.out
       refine ⟨t.length + 1, t.length + 1, n + 1, v', _, Nat.le_refl _, Nat.le_refl _, by omega, rfl, by go_num, by go_num, by omega, HsA, kH ⟨fun _ => ?_, fun h => by omega⟩⟩
       have e : p = t.drop f := by rw [Hp.out, List.take_of_length_le (by rw [List.length_drop]; omega)]
       rw [← H1.out, ← e, pcs_not c p H2.out]
    · have hilt : i < t.length := by omega
      have q : ((i : Int) == (t.length : Int)) = false := by simp; omega
      obtain ⟨B, hB⟩ : ∃ B, B = t[i] := ⟨_, rfl⟩
      have hb : t[i]? = some B := by rw [hB]; exact List.getElem?_eq_getElem hilt
      have hB2 : (⟨t.toArray⟩ : ByteArray)[i]'(show i < t.toArray.size from by simpa using hilt) = B := by rw [hB]; rfl
      have Hcut := kH (drop_cut hf hb)
      have Htk := kH (take_snoc hf hb)
      clear hB hb
      by_cases hbc : B = c
      · subst hbc
        have q2 : ((B.toNat : Int) == (B.toNat : Int)) = true := by simp
        go_wp2_with (at_builtin; refine wpList_append_one' rfl (.tmp 25) (.tmp 30) 106 rfl 9 (.string ByteArray.empty) 16 Tryz.underlying106 infoS rfl _ n _ rfl Hws.out.o (.string ⟨p.toArray⟩) rfl 9 wr.heap.size rfl rfl (by omega) (by omega) ?_; intro v' wA hown hgr hat; have HsA := kH (Hws.out.app hown hgr hat); clear hown hgr hat)
        go_roundg (gk - 1)
        case measure => have := Hgk.out; omega
        case rel =>
         have := Hgk.out
         refine ⟨i + 1, i + 1, n + 1, v', _, Nat.le_refl _, by omega, by omega, rfl, by go_num, by go_num, by omega, HsA, kH ⟨fun h => by omega, fun _ => ⟨?_, by simp⟩⟩⟩
         rw [← H1.out, Hcut.out, ← Hp.out, pcs_app B _ p H2.out, List.append_assoc]
         rfl
      · have q2 : ((B.toNat : Int) == (c.toNat : Int)) = false := by
         simp only [beq_eq_false_iff_ne, ne_eq]
         exact fun e => hbc (UInt8.toNat_inj.1 (by omega))
        have Hbc := kH hbc
        clear hbc
        go_wp2
        go_roundg (gk - 1)
        case measure => have := Hgk.out; omega
        case rel =>
         have := Hgk.out
         refine ⟨f, i + 1, n, _, ps, by omega, by omega, by omega, rfl, rfl, by go_num, by omega, Hws, kH ⟨fun h => by omega, fun _ => ⟨H1.out, ?_⟩⟩⟩
         rw [Htk.out, ← Hp.out, List.mem_append]
         rintro (h | h)
         · exact H2.out h
         · exact Hbc.out (List.mem_singleton.1 h).symm
end KT
end
section
open Go.RowKit Go.Maps Go.Lib
namespace KT
theorem pcs_size (c : UInt8) : ∀ s : List UInt8, (pcs c s).length ≤ s.length + 1 ∧ ∀ x ∈ pcs c s, x.length ≤ s.length := by
 intro s
 induction s with
 | nil => simp [pcs]
 | cons b l ih =>
  obtain ⟨h1, h2⟩ := ih
  unfold pcs
  split
  · refine ⟨by simp; omega, fun x hx => ?_⟩
    rcases List.mem_cons.1 hx with rfl | hx
    · simp
    · have := h2 x hx; simp; omega
  · cases hp : pcs c l with
    | nil => exact absurd hp (pcs_ne c l)
    | cons y r =>
     rw [hp] at h1 h2
     simp only [List.length_cons] at h1
     refine ⟨by simp; omega, fun x hx => ?_⟩
     simp only [List.headD_cons, List.tail_cons] at hx
     rcases List.mem_cons.1 hx with rfl | hx
     · have := h2 y (by simp); simp; omega
     · have := h2 x (by simp [hx]); simp; omega
theorem WS.cell {W w : World} {A : Option Addr} {c n : Nat} {ws : List (List UInt8)} (h : WS W w (.slice A n c) n ws) {j : Nat} {x : List UInt8} (hx : ws[j]? = some x) : ∃ g off, A = some ⟨g, off, none⟩ ∧ g < w.heap.size ∧ w.cell? ⟨g, off + j, none⟩ = some (.string ⟨x.toArray⟩) := by
 have hj := (List.getElem?_eq_some_iff.1 hx).1
 have hl := h.len
 rcases h.o.2 with ⟨e, h0⟩ | ⟨g, off, cap, cur, e, hg, q1, q2, q3, q4⟩
 · omega
 · cases e
   refine ⟨g, off, rfl, (gA hg).1, ?_⟩
   rw [cell_of_row _ _ _ _ _ (0, 0) hg]
   exact q4 j _ (by simp [ss, hx])
theorem rfields_any {t : List UInt8} (ht : t.length ≤ 100000000) {W : World} :
 Calls Tryz.prog 141 #[.string ⟨t.toArray⟩] W fun e w' => ∃ v, e = .returned v ∧ OwnAt w' 3 1 v (fieldsR t).length ((fieldsR t).map (Value.int .i64)) ∧ Below W.heap.size W w' ∧ ∀ i, v.ownBlock = some i → W.heap.size ≤ i := by
 have HC := kH (rcut_any (c := 46) ht (W := W))
 obtain ⟨ps, hps⟩ : ∃ ps, ps = pcs 46 t := ⟨_, rfl⟩
 rw [← hps] at HC
 have Hps := kH hps
 clear hps
 go_enter Tryz.func141, Tryz.ntmps141
 go_wp2_with fail
 (refine HC.out.mono ?_)
 rintro e w2 ⟨v, rfl, hws⟩
 obtain ⟨A, c, e⟩ := hws.o.form
 subst e
 have Hws := kH hws
 clear hws HC
 go_wp2_with fail
 have hpl : ps.length ≤ 100000001 := by have := (pcs_size 46 t).1; rw [Hps.out]; omega
 go_loopg [3, 5] (ps.length + 1) (fun gg s3 s5 wr => ∃ (j : Nat) (v : Value), j ≤ ps.length ∧ s3 = v ∧ s5 = .int .i64 (j : Int) ∧ gg + j = ps.length + 1 ∧ Hid (OwnAt wr 3 1 v j (((ps.take j).map rnum).map (Value.int .i64))) ∧ Hid (Below w2.heap.size w2 wr) ∧ Hid (∀ i, v.ownBlock = some i → w2.heap.size ≤ i))
 case atStart => exact ⟨0, .slice none 0 0, Nat.zero_le _, rfl, rfl, by omega, kH (OwnAt.nil_ _ _ _), kH (Below.refl _ _), kH (fun i e => by simp [Value.ownBlock] at e)⟩
 case round =>
  obtain ⟨j, v, hj, rfl, rfl, hgk, Ho, Hb, Hnw⟩ := hrel
  have Hgk := kH hgk
  clear hgk
  obtain ⟨Av, cv, hv⟩ := Ho.out.form
  subst hv
  by_cases hjl : j < ps.length
  · have hx := List.getElem?_eq_getElem hjl
    obtain ⟨x, hxe⟩ : ∃ x, x = ps[j] := ⟨_, rfl⟩
    rw [← hxe] at hx
    obtain ⟨g, off, rfl, hg, hc⟩ := (Hws.out.below (W1 := W) Hb.out).cell hx
    have Hx := kH hx
    have hxl : x.length ≤ 4611686018427387904 := by
     have h1 := (pcs_size 46 t).2 x (by rw [← Hps.out]; exact List.mem_of_getElem? hx)
     omega
    have Hnum := kH (rnumber_any hxl (W := wr))
    have Hs2 := kH (show w2.heap.size ≤ wr.heap.size from Hb.out.size)
    clear hx hxe hxl
    go_wp2_with fail
    (with_reducible refine Hnum.out.mono ?_)
    rintro e w3 ⟨rfl, rfl⟩
    clear Hnum
    go_wp2_with (at_builtin; refine wpList_append_one' rfl (.tmp 14) (.tmp 20) 60 rfl 3 (.int .i64 0) 8 Tryz.underlying60 infoI rfl _ j _ rfl Ho.out (.int .i64 (rnum x)) rfl 3 wr.heap.size rfl rfl (by omega) (by omega) ?_; intro v' w5 hown' hgr hat; have Hown' := kH hown'; have Hgr := kH hgr; have Hat := kH hat; clear hown' hgr hat)
    go_roundg (gk - 1)
    case measure => have := Hgk.out; omega
    case rel =>
     have := Hgk.out
     have hsz := Hs2.out
     refine ⟨j + 1, v', by omega, rfl, by go_num, by omega, kH ?_, kH ((Hb.out.alloc (by omega) _).grown Hgr.out (by simp; omega) (fun g hg => Hnw.out g hg)), kH fun i hi => ?_⟩
     · rw [List.take_add_one, Hx.out, Option.toList_some, List.map_append, List.map_append]
       exact Hown'.out
     · rcases Hat.out with e | e
       · exact Hnw.out i (e ▸ hi)
       · rw [e] at hi; injection hi with hi; omega
  · obtain rfl : ps.length = j := by omega
    have Hf := kH (show OwnAt wr 3 1 (.slice Av ps.length cv) ps.length ((ps.map rnum).map (Value.int .i64)) from by
     have h := Ho.out
     rw [List.take_length] at h
     exact h)
    obtain ⟨ii, hi1, hz1, hsz1, hby1⟩ := info_parts infoI
    have Hs2 := kH (show w2.heap.size ≤ wr.heap.size from Hb.out.size)
    have Hs1 := kH Hws.out.b.size
    have Hnews := kH (show ∀ (j : Nat) (u : Value), [Value.int .i64 0, Value.int .i64 0, Value.int .i64 0, Value.int .i64 0][j]? = some u → (wr.alloc (.cells #[.int .i64 0, .int .i64 0, .int .i64 0, .int .i64 0] 3)).cell? ((⟨wr.heap.size, 0, none⟩ : Addr).add j) = some u from fun j u hu => by
     rw [addr_add_zero, cell_of_row _ _ _ _ _ (0, 0) (heap_alloc_new wr _)]
     simpa using hu)
    go_wp2_with (at_builtin; refine wpList_append_at _ rfl (.tmp 22) (.tmp 23) 60 rfl 3 ii (.int .i64 0) 1 8 Tryz.underlying60 hi1 hz1 hsz1 hby1 rfl _ ps.length _ rfl (Hf.out.alloc _) ⟨wr.heap.size, 0, none⟩ 4 4 [.int .i64 0, .int .i64 0, .int .i64 0, .int .i64 0] rfl rfl Hnews.out (by simp [Value.oneCell']) (by simp only [maxLen]; omega) (by omega) ?_; intro v' w5 hown' hgr hat; have Hown' := kH hown'; have Hgr := kH hgr; have Hat := kH hat; clear hown' hgr hat)
    go_ret
    have hs1 := Hs1.out
    have hs2 := Hs2.out
    refine ⟨v', rfl, ?_, (Hws.out.b.trans (Hb.out.mono hs1)).trans (((Below.refl W.heap.size wr).alloc (by omega) _).grown Hgr.out (by simp; omega) (fun g hg => by have := Hnw.out g hg; omega)), fun i hi => ?_⟩
    · have h := Hown'.out
      have e : fieldsR t = ps.map rnum ++ [0, 0, 0, 0] := by rw [Hps.out]; rfl
      rw [e]
      simpa using h
    · rcases Hat.out with e | e
      · have := Hnw.out i (e ▸ hi); omega
      · rw [e] at hi; injection hi with hi; simp at hi; omega
end KT
end
section
open Go.RowKit Go.Lib
namespace KT
def StrR (_ : World) (u : Value) (x : List UInt8) : Prop := u = .string ⟨x.toArray⟩
theorem monoStr : MonoR StrR := fun _ _ _ _ _ h => h
def MLen (W : World) : Prop := ∃ m : Int, W.cell? ⟨2, 0, none⟩ = some (.int .i64 m)
theorem MLen.below {W W' : World} (h : MLen W) (hb : Below W.heap.size W W') : MLen W' := by
 obtain ⟨m, h1⟩ := h
 obtain ⟨cs, ty, f, hc⟩ := cells_of_cell h1
 exact ⟨m, (hb.cell (p := ⟨2, 0, none⟩) (gA hc).1).trans h1⟩
theorem one_size (c : UInt8) : 1 ≤ (⟨#[c]⟩ : ByteArray).size := Nat.le_refl 1
theorem ss_of (l : List ByteArray) : l.map Value.string = ss (l.map (·.data.toList)) := by
 unfold ss
 rw [List.map_map]
 exact List.map_congr_left fun x _ => by simp
theorem sl_words {w : World} {g n : Nat} {ty : TypeId} {cells : Array Value} {xs : List (List UInt8)} (hr : w.heap[g]? = some (.cells cells ty (0, 0))) (hl : xs.length = n) (hn : n ≤ 9223372036854775807) (hc : ∀ (j : Nat) (u : Value), (ss xs)[j]? = some u → cells[j]? = some u) : SlAt StrR w (some ⟨g, 0, none⟩) n xs := by
 refine ⟨hl, hn, fun k x hx => ⟨g, 0, .string ⟨x.toArray⟩, rfl, (gA hr).1, ?_, rfl⟩⟩
 rw [cell_of_row _ _ _ _ _ (0, 0) hr]
 rw [Nat.zero_add]
 exact hc k _ (by simp [ss, hx])
theorem Split_any {s : List UInt8} {c : UInt8} (hs : s.length ≤ 1000000000) {W : World} (hM : MLen W) :
 Calls Tryz.prog 75 #[.string ⟨s.toArray⟩, .string ⟨#[c]⟩] W fun e w' => e = .returned (.slice (some ⟨W.heap.size, 0, none⟩) (split s [c]).length (split s [c]).length) ∧ SlAt StrR w' (some ⟨W.heap.size, 0, none⟩) (split s [c]).length (split s [c]) ∧ Below W.heap.size W w' := by
 obtain ⟨m, hm⟩ := hM
 have hsz : (⟨s.toArray⟩ : ByteArray).size = s.length := by show s.toArray.size = _; simp
 refine (Tryz.strings_Split ⟨s.toArray⟩ ⟨#[c]⟩ m W (by rw [hsz]; omega) hm (one_size c)).mono ?_
 rintro e w' ⟨rfl, rfl⟩
 have h1 : (Lib.splitB ⟨#[c]⟩ 0 (countB ⟨s.toArray⟩ ⟨#[c]⟩) ⟨s.toArray⟩).map (·.data.toList) = split s [c] := by
  rw [Lib.splitB_data]
  simp [split, countB]
 have h2 : (split s [c]).length = countB ⟨s.toArray⟩ ⟨#[c]⟩ + 1 := by
  rw [← h1, List.length_map]
  exact Lib.splitB_all _ (one_size c) 0 _ _ rfl
 rw [ss_of, h1, ← h2]
 have h3 := countB_le ⟨#[c]⟩ (one_size c) _ ⟨s.toArray⟩ (Nat.le_refl _)
 refine ⟨rfl, sl_words (heap_alloc_new W _) rfl (by omega) fun j u hu => by simpa using hu, al0⟩
theorem Split_row {s : List UInt8} {c : UInt8} (hs : s.length ≤ 1000000000) {W : World} (hM : MLen W) :
 Calls Tryz.prog 75 #[.string ⟨s.toArray⟩, .string ⟨#[c]⟩] W fun e w' => e = .returned (.slice (some ⟨W.heap.size, 0, none⟩) (split s [c]).length (split s [c]).length) ∧ w'.heap[W.heap.size]? = some (.cells (ss (split s [c])).toArray 9 (0, 0)) ∧ Below W.heap.size W w' := by
 obtain ⟨m, hm⟩ := hM
 have hsz : (⟨s.toArray⟩ : ByteArray).size = s.length := by show s.toArray.size = _; simp
 refine (Tryz.strings_Split ⟨s.toArray⟩ ⟨#[c]⟩ m W (by rw [hsz]; omega) hm (one_size c)).mono ?_
 rintro e w' ⟨rfl, rfl⟩
 have h1 : (Lib.splitB ⟨#[c]⟩ 0 (countB ⟨s.toArray⟩ ⟨#[c]⟩) ⟨s.toArray⟩).map (·.data.toList) = split s [c] := by
  rw [Lib.splitB_data]
  simp [split, countB]
 have h2 : (split s [c]).length = countB ⟨s.toArray⟩ ⟨#[c]⟩ + 1 := by
  rw [← h1, List.length_map]
  exact Lib.splitB_all _ (one_size c) 0 _ _ rfl
 rw [ss_of, h1, ← h2]
 exact ⟨rfl, heap_alloc_new W _, al0⟩
theorem split_size {s : List UInt8} {c : UInt8} : (split s [c]).length ≤ s.length + 1 := by
 have h1 : (Lib.splitB ⟨#[c]⟩ 0 (countB ⟨s.toArray⟩ ⟨#[c]⟩) ⟨s.toArray⟩).map (·.data.toList) = split s [c] := by
  rw [Lib.splitB_data]
  simp [split, countB]
 have h2 := Lib.splitB_length_le ⟨#[c]⟩ 0 (countB ⟨s.toArray⟩ ⟨#[c]⟩) ⟨s.toArray⟩
 have h3 := countB_le ⟨#[c]⟩ (one_size c) _ ⟨s.toArray⟩ (Nat.le_refl _)
 have hsz : (⟨s.toArray⟩ : ByteArray).size = s.length := by show s.toArray.size = _; simp
 rw [← h1, List.length_map]
 omega
theorem SplitN_any {s : List UInt8} {c : UInt8} {n : Nat} (hs : s.length ≤ 1000000000) (hn : 1 ≤ n) (hn2 : n ≤ 1000) {W : World} (hM : MLen W) :
 Calls Tryz.prog 138 #[.string ⟨s.toArray⟩, .string ⟨#[c]⟩, .int .i64 (n : Int)] W fun e w' => ∃ cc, e = .returned (.slice (some ⟨W.heap.size, 0, none⟩) (splitN s [c] n).length cc) ∧ SlAt StrR w' (some ⟨W.heap.size, 0, none⟩) (splitN s [c] n).length (splitN s [c] n) ∧ Below W.heap.size W w' := by
 obtain ⟨m, hm⟩ := hM
 have hsz : (⟨s.toArray⟩ : ByteArray).size = s.length := by show s.toArray.size = _; simp
 refine (Tryz.strings_SplitN ⟨s.toArray⟩ ⟨#[c]⟩ n m W (by rw [hsz]; omega) hm (one_size c) hn (by omega)).mono ?_
 rintro e w' ⟨rfl, rfl⟩
 have h1 : (Lib.splitB ⟨#[c]⟩ 0 (min n ((⟨s.toArray⟩ : ByteArray).size + 1) - 1) ⟨s.toArray⟩).map (·.data.toList) = splitN s [c] n := by
  rw [Lib.splitB_data, hsz]
  simp [splitN]
 have h2 := Lib.splitB_length_le ⟨#[c]⟩ 0 (min n ((⟨s.toArray⟩ : ByteArray).size + 1) - 1) ⟨s.toArray⟩
 have h3 : (Lib.splitB ⟨#[c]⟩ 0 (min n ((⟨s.toArray⟩ : ByteArray).size + 1) - 1) ⟨s.toArray⟩).length = (splitN s [c] n).length := by rw [← h1, List.length_map]
 rw [h3] at h2
 refine ⟨_, by rw [h3], sl_words (heap_alloc_new W _) rfl (by omega) fun j u hu => ?_, al0⟩
 unfold cellsOf
 rw [ss_of, h1]
 have hj := (List.getElem?_eq_some_iff.1 hu).1
 rw [List.getElem?_toArray, List.getElem?_append_left hj]
 exact hu
theorem Cut_any {s : List UInt8} {c : UInt8} (hs : s.length ≤ 1000000000) {W : World} (hM : MLen W) :
 Calls Tryz.prog 146 #[.string ⟨s.toArray⟩, .string ⟨#[c]⟩] W fun e w' => e = .returned (.tuple #[.string ⟨(cut s [c]).1.toArray⟩, .string ⟨(cut s [c]).2.1.toArray⟩, .bool (cut s [c]).2.2]) ∧ Dr W w' := by
 obtain ⟨m, hm⟩ := hM
 have hsz : (⟨s.toArray⟩ : ByteArray).size = s.length := by show s.toArray.size = _; simp
 refine (Tryz.strings_Cut ⟨s.toArray⟩ ⟨#[c]⟩ m W (by rw [hsz]; omega) hm).mono ?_
 rintro e w' ⟨rfl, n, rfl⟩
 exact ⟨by simp, n, rfl⟩
end KT
end
section
namespace KT
def ix (s : List Int) (i : Int) : Int := if i ∈ s then ((s.idxOf i : Nat) : Int) else -1
theorem ix_in {s : List Int} {i : Int} (h : i ∈ s) : ix s i = ((s.idxOf i : Nat) : Int) := by unfold ix; rw [if_pos h]
theorem ix_out {s : List Int} {i : Int} (h : i ∉ s) : ix s i = -1 := by unfold ix; rw [if_neg h]
theorem ix_lt {s : List Int} {i : Int} : ix s i < 0 ↔ i ∉ s := by
 unfold ix
 split
 · rename_i h; exact ⟨fun h2 => by omega, fun h2 => absurd h h2⟩
 · rename_i h; exact ⟨fun _ => h, fun _ => by omega⟩
theorem ix_meet_same {s : List Int} {n : Int} (h : n ∉ s) : ix (meet s n) n = (s.length : Int) := by
 unfold meet
 rw [if_neg h, ix_in (by simp), List.idxOf_append, if_neg h]
 simp
theorem ix_meet_other {s : List Int} {n i : Int} (h : n ∉ s) (hi : i ≠ n) : ix (meet s n) i = ix s i := by
 unfold meet
 rw [if_neg h]
 by_cases hs : i ∈ s
 · rw [ix_in (by simp [hs]), ix_in hs, List.idxOf_append, if_pos hs]
 · rw [ix_out (by simp [hs, hi]), ix_out hs]
theorem meet_in {s : List Int} {n : Int} (h : n ∈ s) : meet s n = s := by unfold meet; rw [if_pos h]
theorem meet_len {s : List Int} {n : Int} (h : n ∉ s) : (meet s n).length = s.length + 1 := by unfold meet; rw [if_neg h]; simp
def frm (L Q : List T.Nd) (ps : List R.Cd) : R.Rl :=
 ⟨L.map (ren (seen 33 [] L) (seen 34 [] L)), Q.map (ren (seen 33 [] L) (seen 34 [] L)), ps.map fun c => { c with hole := (((seen 34 [] L).idxOf c.hole : Nat) : Int) }⟩
def wi (a b : List R.Cd) : Bool := a.all fun c => decide (c ∈ b)
theorem wi_iff {a b : List R.Cd} : wi a b = true ↔ ∀ c ∈ a, c ∈ b := by
 unfold wi
 rw [List.all_eq_true]
 exact ⟨fun h c hc => of_decide_eq_true (h c hc), fun h c hc => decide_eq_true (h c hc)⟩
def smF (a b : R.Rl) : Bool := decide (a.left = b.left) && (decide (a.right = b.right) && (wi a.pre b.pre && wi b.pre a.pre))
def cdI (c : R.Cd) : List Int := [c.kind, c.hole, c.imm]
theorem cdI_inj {a b : R.Cd} (h : cdI a = cdI b) : a = b := by
 obtain ⟨a1, a2, a3⟩ := a
 obtain ⟨b1, b2, b3⟩ := b
 simp [cdI] at h
 obtain ⟨rfl, rfl, rfl⟩ := h
 rfl
theorem frm_pre (L Q : List T.Nd) (ps : List R.Cd) : (form L Q ps).pre = (frm L Q ps).pre.map cdI := by
 unfold form frm
 simp only [List.map_map]
 rfl
theorem sub_map {a b : List R.Cd} : (∀ p ∈ a.map cdI, p ∈ b.map cdI) ↔ ∀ c ∈ a, c ∈ b := by
 constructor
 · intro h c hc
   obtain ⟨d, hd, e⟩ := List.mem_map.1 (h (cdI c) (List.mem_map.2 ⟨c, hc, rfl⟩))
   rw [← cdI_inj e]
   exact hd
 · intro h p hp
   obtain ⟨c, hc, rfl⟩ := List.mem_map.1 hp
   exact List.mem_map.2 ⟨c, h c hc, rfl⟩
theorem sm_frm {r q : R.Rl} {L Q L' Q' : List T.Nd} (h : Sides r L Q) (h' : Sides q L' Q') : sm r q = smF (frm L Q r.pre) (frm L' Q' q.pre) := by
 rw [Bool.eq_iff_iff, sm_iff, formR_eq h, formR_eq h']
 unfold smF Form.same
 rw [Bool.and_eq_true, Bool.and_eq_true, Bool.and_eq_true, wi_iff, wi_iff, decide_eq_true_iff, decide_eq_true_iff, frm_pre, frm_pre, sub_map, sub_map]
 exact ⟨fun ⟨a, b, c, d⟩ => ⟨a, b, c, d⟩, fun ⟨a, b, c, d⟩ => ⟨a, b, c, d⟩⟩
end KT
end
end Go.Proofs.YtbiopedpceddeaaGreatDoor
