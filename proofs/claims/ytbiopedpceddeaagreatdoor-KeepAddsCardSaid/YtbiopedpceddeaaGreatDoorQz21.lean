/- Part. -/
import Derived.Test.YtbiopedpceddeaaGreatDoorQz18
import Derived.Laws.StructEq
import Derived.Deep.DeepCutAuto
set_option linter.unusedVariables false
set_option linter.unusedSimpArgs false
set_option maxRecDepth 100000
set_option maxHeartbeats 16000000
namespace Go.Proofs.YtbiopedpceddeaaGreatDoor
section
open Go.RowKit
namespace RF
theorem canon_imm {p : List T.Nd} {right : Bool} (hp : ∀ k x, p[k]? = some x → R.pnode p right k x = true) {la : List Int} {f : T.F} (hf : T.Rep p la f) : ∀ x ∈ T.canon f, (x.op = 33 ∨ x.op = 34) → x.imm < 2 := by
 have hc : T.Cov p (T.canon f) := T.cnn_cov hf List.nodup_nil T.ord_nil (T.cov_nil p)
 have told := T.cnn_told f List.nodup_nil T.ord_nil
 intro y hy ho
 obtain ⟨j, hj⟩ := List.getElem?_of_mem hy
 obtain ⟨k, x, hx, e1, e2, e3, e4, e5, e6⟩ := V.node_match hc told.ord hj
 rw [← e4]
 exact R.pnode_imm (hp k x hx) (by rw [e1]; exact ho)
def FormPost (W : World) (L Q : List T.Nd) (P : List R.Cd) (e : Ending) (W' : World) : Prop :=
 ∃ v1 v2 v3, e = .returned (.agg #[v1, v2, v3]) ∧ OwnRl W.heap.size W' v1 v2 v3 (KT.frm L Q P) ∧ Below W.heap.size W W'
theorem formOf_any {r : R.Rl} {nl cl nr cr np cp : Nat} {AL AR AP : Option Addr} {W : World} (hR : RlAt W r nl nr np AL AR AP) (hok : R.ROk r) {L Q : List T.Nd} (hS : KT.Sides r L Q) :
 Calls Tryz.prog 70 #[.agg #[.slice AL nl cl, .slice AR nr cr, .slice AP np cp]] W (FormPost W L Q r.pre) := by
 obtain ⟨W1, hW1⟩ : ∃ W1, W1 = (W.alloc (.cells #[.slice AL nl cl, .slice AR nr cr, .slice AP np cp] 33)).alloc (.cells #[.slice none 0 0, .slice none 0 0, .slice none 0 0] 101) := ⟨_, rfl⟩
 have hb1 : Below W.heap.size W W1 := by rw [hW1]; exact (al0).alloc (by simp) _
 have hrow : W1.heap[W.heap.size]? = some (.cells #[.slice AL nl cl, .slice AR nr cr, .slice AP np cp] 33 (0, 0)) := by rw [hW1]; exact row_alloc (heap_alloc_new W _) _
 have hrow2 : W1.heap[W.heap.size + 1]? = some (.cells #[.slice none 0 0, .slice none 0 0, .slice none 0 0] 101 (0, 0)) := by rw [hW1]; exact new_two W _ _
 have Hs1 := kH (show W1.heap.size = W.heap.size + 2 from by rw [hW1]; simp)
 have Hrow := kH (fun (X : World) (h : Below W1.heap.size W1 X) => (h.block _ (gA hrow).1).trans hrow)
 have Hrow2 := kH (fun (X : World) (h : Below W1.heap.size W1 X) => (h.block _ (gA hrow2).1).trans hrow2)
 have HB1 := kH hb1
 have HR1 := kH (hR.below hb1)
 have Hok := kH hok
 have HSd := kH hS
 have hnl := hR.sl.len
 have hnr := hR.sr.len
 have hl1 := hok.lpos
 have hl2 := hok.llen
 have hr1 := hok.rpos
 have hr2 := hok.rlen
 rw [hnl] at hl1 hl2
 rw [hnr] at hr1 hr2
 obtain ⟨f, hf, hL⟩ := hS.left
 obtain ⟨g, hg, hQ⟩ := hS.right
 rw [hnl] at hf
 rw [hnr] at hg
 have HLi := kH (canon_imm hok.lp hf)
 have HQi := kH (canon_imm hok.rp hg)
 have HLl := kH (KT.canon_ndI hok.lp (KT.nd_rng hR.sl) hok.llen hf).2
 have HQl := kH (KT.canon_ndI hok.rp (KT.nd_rng hR.sr) hok.rlen hg).2
 rw [← hL] at HLi HLl
 rw [← hQ] at HQi HQl
 have hn1 : (nl : Int) - 1 = ((nl - 1 : Nat) : Int) := by omega
 have hn2 : (nr : Int) - 1 = ((nr - 1 : Nat) : Int) := by omega
 have HC1 := kH (show ∀ X, Below W1.heap.size W1 X → Calls Tryz.prog 54 #[.slice AL nl cl, .int .i64 (IntKind.i64.wrap ((nl : Int) - 1))] X fun e X' => ∃ v, e = .returned v ∧ OwnR (NdF X.heap.size) X.heap.size X' v L ∧ Below X.heap.size X X' from fun X hX => by
  rw [show IntKind.i64.wrap ((nl : Int) - 1) = ((nl - 1 : Nat) : Int) from by rw [IntKind.wrap_i64]; omega, hL]
  exact Shared_any (HR1.out.sl.below monoNd hX) (R.pnode_ord hok.lp) (by omega) (fun x hx => Nat.le_trans ((KT.pnode_twf hok.lp).len x hx) (by omega)) (by omega) f (by rw [← hn1]; exact hf))
 have HC2 := kH (show ∀ X, Below W1.heap.size W1 X → Calls Tryz.prog 54 #[.slice AR nr cr, .int .i64 (IntKind.i64.wrap ((nr : Int) - 1))] X fun e X' => ∃ v, e = .returned v ∧ OwnR (NdF X.heap.size) X.heap.size X' v Q ∧ Below X.heap.size X X' from fun X hX => by
  rw [show IntKind.i64.wrap ((nr : Int) - 1) = ((nr - 1 : Nat) : Int) from by rw [IntKind.wrap_i64]; omega, hQ]
  exact Shared_any (HR1.out.sr.below monoNd hX) (R.pnode_ord hok.rp) (by omega) (fun x hx => Nat.le_trans ((KT.pnode_twf hok.rp).len x hx) (by omega)) (by omega) g (by rw [← hn2]; exact hg))
 have HS := kH (show ∀ Y, Below W1.heap.size W1 Y → Y.cell? ⟨W.heap.size, 0, none⟩ = some (.slice AL nl cl) ∧ Y.cell? ⟨W.heap.size, 1, none⟩ = some (.slice AR nr cr) from fun Y hY => by
  obtain ⟨h0, h1, h2, _⟩ := rl_cells (Hrow.out _ hY)
  exact ⟨h0, h1⟩)
 have Hb0 := kH (show Below W1.heap.size W1 W1.drew from (Below.refl _ _).drew)
 have Hbr := kH (Below.refl W1.heap.size W1)
 have HW1 := kH hW1
 clear hR hok hS hf hg hL hQ hb1 hrow hrow2 hW1 hn1 hn2 hnl hnr
 go_enter Tryz.func70, Tryz.ntmps70
 go_upto_region 1 with (fail)
 rw [← HW1.out]
 go_cut [3] (fun s3 wx => ∃ gb v1 v2, s3 = .pointer (some ⟨gb, 0, none⟩) ∧ Hid (FSt W1.heap.size gb v1 v2 (.slice none 0 0) L Q [] wx) ∧ Hid (Below W1.heap.size W1 wx))
 case first =>
  have HS2 := kH (show ∀ Y (a0 a1 a2 : Value) (gb : Nat), W1.heap.size ≤ gb → Below W1.heap.size W1 Y → (set3 Y gb a0 a1 a2).cell? ⟨W.heap.size, 0, none⟩ = some (.slice AL nl cl) ∧ (set3 Y gb a0 a1 a2).cell? ⟨W.heap.size, 1, none⟩ = some (.slice AR nr cr) from fun Y a0 a1 a2 gb hgb hY => by
   have hr0 := Hrow.out _ hY
   have hs := Hs1.out
   have hr3 := ((set3_grown Y gb a0 a1 a2).block _ (gA hr0).1 (fun e => by injection e with e; omega)).trans hr0
   obtain ⟨h0, h1, h2, _⟩ := rl_cells hr3
   exact ⟨h0, h1⟩)
  refine wp_region_held_drew (S := fun Y => Y.cell? ⟨W.heap.size, 0, none⟩ = some (.slice AL nl cl) ∧ Y.cell? ⟨W.heap.size, 1, none⟩ = some (.slice AR nr cr)) (by kernel_rfl) (HS.out W1.drew Hb0.out) (fun hHeld => ?_)
  refine tk 0 ?_ hHeld (fun Y hY => ?_) ?_
  rotate_left
  · (go_simp) <;> with_reducible rfl
  try simp only [Act.put, yL]
  refine tk 1 ?_ hHeld (fun Y hY => ?_) ?_
  rotate_left
  · obtain ⟨y0, y1⟩ := hY
    (go_simp) <;> with_reducible rfl
  try simp only [Act.put, yL]
  refine tk 2 ?_ hHeld (fun Y hY => ?_) ?_
  rotate_left
  · (go_simp) <;> with_reducible rfl
  try simp only [Act.put, yL]
  refine tk 3 ?_ hHeld (fun Y hY => ?_) ?_
  rotate_left
  · obtain ⟨y0, y1⟩ := hY
    (go_simp) <;> with_reducible rfl
  try simp only [Act.put, yL]
  refine tk 4 ?_ hHeld (fun Y hY => ?_) ?_
  rotate_left
  · (go_simp) <;> with_reducible rfl
  try simp only [Act.put, yL]
  refine tk 5 ?_ hHeld (fun Y hY => ?_) ?_
  rotate_left
  · (go_simp) <;> with_reducible rfl
  try simp only [Act.put, yL]
  refine tk 7 ?_ hHeld (fun Y hY => ?_) ?_
  rotate_left
  · (go_simp) <;> with_reducible rfl
  try simp only [Act.put, yL]
  refine tk 8 ?_ hHeld (fun Y hY => ?_) ?_
  rotate_left
  · obtain ⟨y0, y1⟩ := hY
    (go_simp) <;> with_reducible rfl
  try simp only [Act.put, yL]
  refine tk 9 ?_ hHeld (fun Y hY => ?_) ?_
  rotate_left
  · (go_simp) <;> with_reducible rfl
  try simp only [Act.put, yL]
  refine tk 10 ?_ hHeld (fun Y hY => ?_) ?_
  rotate_left
  · obtain ⟨y0, y1⟩ := hY
    (go_simp) <;> with_reducible rfl
  try simp only [Act.put, yL]
  refine tk 11 ?_ hHeld (fun Y hY => ?_) ?_
  rotate_left
  · (go_simp) <;> with_reducible rfl
  try simp only [Act.put, yL]
  refine tk 12 ?_ hHeld (fun Y hY => ?_) ?_
  rotate_left
  · (go_simp) <;> with_reducible rfl
  try simp only [Act.put, yL]
  refine wpAnyH_ready (rs := [6, 15]) (by kernel_rfl) (by simp) ?_
  refine AllReadyH.cons (o := _) rfl (fun KK hKK => ?_) (AllReadyH.cons (o := _) rfl (fun KK hKK => ?_) AllReadyH.nil)
  · clear hHeld
    go_simp
    (with_reducible refine (HC1.out _ Hb0.out).mono ?_)
    rintro e x1 ⟨v1, rfl, hown, hb'⟩
    obtain ⟨A1, k1, rfl⟩ := hown.form
    have Hb1 := kH (Hb0.out.trans (hb'.mono Hb0.out.size))
    have HO1 := kH hown
    have HX1 := kH (show W1.heap.size ≤ (W1.drew).heap.size from Hb0.out.size)
    clear hown hb'
    refine hKK.out _ _ (HS.out _ Hb1.out) (fun hHeld => ?_)
    clear hKK KK
    try simp only [Act.put, yL]
    refine wpAnyH_ready (rs := [13, 15]) (by kernel_rfl) (by simp) ?_
    refine AllReadyH.cons (o := _) rfl (fun KK hKK => ?_) (AllReadyH.cons (o := _) rfl (fun KK hKK => ?_) AllReadyH.nil)
    · clear hHeld
      go_simp
      (with_reducible refine (HC2.out _ Hb1.out).mono ?_)
      rintro e x2 ⟨v2, rfl, hown, hb'⟩
      obtain ⟨A2, k2, rfl⟩ := hown.form
      have Hb2 := kH (Hb1.out.trans (hb'.mono Hb1.out.size))
      have HO2 := kH hown
      have HX2 := kH (show W1.heap.size ≤ (x1).heap.size ∧ ∀ g, (Value.slice A1 L.length k1).ownBlock = some g → (Value.slice A2 Q.length k2).ownBlock ≠ some g from ⟨Hb1.out.size, fun g e e' => by
       obtain ⟨_, cur, fr, hc⟩ := HO1.out.row g e
       have h1 := (gA hc).1
       have h2 := (hown.row g e').1
       omega⟩)
      replace HO1 := kH (HO1.out.below (ndF_rel _) hb')
      clear hown hb'
      refine hKK.out _ _ (HS.out _ Hb2.out) (fun hHeld => ?_)
      clear hKK KK
      try simp only [Act.put, yL]
      refine tk 14 ?_ hHeld (fun Y hY => ?_) ?_
      rotate_left
      · (go_simp) <;> with_reducible rfl
      try simp only [Act.put, yL]
      refine rd 15 (fun KK hKK => ?_)
      clear hHeld
      go_simp
      obtain ⟨xa, hxa⟩ : ∃ xa, xa = (x2.alloc (.cells #[.slice none 0 0, .slice none 0 0, .slice none 0 0] 101)) := ⟨_, rfl⟩
      rw [← hxa]
      have hba : Below (x2).heap.size (x2) xa := by rw [hxa]; exact (al0)
      have Hba := kH (Hb2.out.trans (hba.mono Hb2.out.size))
      obtain ⟨gb, hgb⟩ : ∃ gb, gb = (x2).heap.size := ⟨_, rfl⟩
      have Hgrow := kH (show xa.heap[gb]? = some (.cells #[.slice none 0 0, .slice none 0 0, .slice none 0 0] 101 (0, 0)) from by rw [hxa, hgb]; exact heap_alloc_new _ _)
      replace HO1 := kH (HO1.out.below (ndF_rel _) hba)
      replace HO2 := kH (HO2.out.below (ndF_rel _) hba)
      have Hgb := kH (show W1.heap.size ≤ gb from by rw [hgb]; exact Hb2.out.size)
      rw [← hgb]
      clear hba hxa hgb
      refine hKK.out _ _ (HS.out _ Hba.out) (fun hHeld => ?_)
      clear hKK KK
      try simp only [Act.put, yL]
      have hrg := Hgrow.out
      obtain ⟨z0, z1, z2, zf⟩ := rl_cells hrg
      have zf0 := zf 0
      have zf1 := zf 1
      have zf2 := zf 2
      clear zf hrg
      refine rd 16 (fun KK hKK => ?_)
      clear hHeld
      go_simp
      refine hKK.out _ _ (HS2.out _ _ _ _ gb Hgb.out Hba.out) (fun hHeld => ?_)
      clear hKK KK
      try simp only [Act.put, yL]
      refine wpAnyH_done (by kernel_rfl) ?_ _
      go_wp2
      go_meet
      refine ⟨gb, _, _, rfl, kH ⟨Hgb.out, set3_row _ _ _ Hgrow.out, (HO1.out.other (set3_grown xa gb _ _ _) (fun g cur T fr e hc => form_ne e Hgrow.out hc)).weak HX1.out, (HO2.out.other (set3_grown xa gb _ _ _) (fun g cur T fr e hc => form_ne e Hgrow.out hc)).weak HX2.out.1, OwnC.nil_ _ _, HX2.out.2⟩, kH (set3_below _ _ _ Hba.out Hgb.out)⟩
    · clear hHeld
      go_simp
      obtain ⟨xa, hxa⟩ : ∃ xa, xa = (x1.alloc (.cells #[.slice none 0 0, .slice none 0 0, .slice none 0 0] 101)) := ⟨_, rfl⟩
      rw [← hxa]
      have hba : Below (x1).heap.size (x1) xa := by rw [hxa]; exact (al0)
      have Hba := kH (Hb1.out.trans (hba.mono Hb1.out.size))
      obtain ⟨gb, hgb⟩ : ∃ gb, gb = (x1).heap.size := ⟨_, rfl⟩
      have Hgrow := kH (show xa.heap[gb]? = some (.cells #[.slice none 0 0, .slice none 0 0, .slice none 0 0] 101 (0, 0)) from by rw [hxa, hgb]; exact heap_alloc_new _ _)
      replace HO1 := kH (HO1.out.below (ndF_rel _) hba)
      have Hgb := kH (show W1.heap.size ≤ gb from by rw [hgb]; exact Hb1.out.size)
      rw [← hgb]
      clear hba hxa hgb
      refine hKK.out _ _ (HS.out _ Hba.out) (fun hHeld => ?_)
      clear hKK KK
      try simp only [Act.put, yL]
      refine rd 13 (fun KK hKK => ?_)
      clear hHeld
      go_simp
      (with_reducible refine (HC2.out _ Hba.out).mono ?_)
      rintro e x2 ⟨v2, rfl, hown, hb'⟩
      obtain ⟨A2, k2, rfl⟩ := hown.form
      have Hb2 := kH (Hba.out.trans (hb'.mono Hba.out.size))
      have HO2 := kH hown
      have HX2 := kH (show W1.heap.size ≤ (xa).heap.size ∧ ∀ g, (Value.slice A1 L.length k1).ownBlock = some g → (Value.slice A2 Q.length k2).ownBlock ≠ some g from ⟨Hba.out.size, fun g e e' => by
       obtain ⟨_, cur, fr, hc⟩ := HO1.out.row g e
       have h1 := (gA hc).1
       have h2 := (hown.row g e').1
       omega⟩)
      replace Hgrow := kH ((hb'.block _ (gA Hgrow.out).1).trans Hgrow.out)
      replace HO1 := kH (HO1.out.below (ndF_rel _) hb')
      clear hown hb'
      refine hKK.out _ _ (HS.out _ Hb2.out) (fun hHeld => ?_)
      clear hKK KK
      try simp only [Act.put, yL]
      refine tk 14 ?_ hHeld (fun Y hY => ?_) ?_
      rotate_left
      · (go_simp) <;> with_reducible rfl
      try simp only [Act.put, yL]
      have hrg := Hgrow.out
      obtain ⟨z0, z1, z2, zf⟩ := rl_cells hrg
      have zf0 := zf 0
      have zf1 := zf 1
      have zf2 := zf 2
      clear zf hrg
      refine rd 16 (fun KK hKK => ?_)
      clear hHeld
      go_simp
      refine hKK.out _ _ (HS2.out _ _ _ _ gb Hgb.out Hb2.out) (fun hHeld => ?_)
      clear hKK KK
      try simp only [Act.put, yL]
      refine wpAnyH_done (by kernel_rfl) ?_ _
      go_wp2
      go_meet
      refine ⟨gb, _, _, rfl, kH ⟨Hgb.out, set3_row _ _ _ Hgrow.out, (HO1.out.other (set3_grown x2 gb _ _ _) (fun g cur T fr e hc => form_ne e Hgrow.out hc)).weak HX1.out, (HO2.out.other (set3_grown x2 gb _ _ _) (fun g cur T fr e hc => form_ne e Hgrow.out hc)).weak HX2.out.1, OwnC.nil_ _ _, HX2.out.2⟩, kH (set3_below _ _ _ Hb2.out Hgb.out)⟩
  · clear hHeld
    go_simp
    obtain ⟨xa, hxa⟩ : ∃ xa, xa = (W1.alloc (.cells #[.slice none 0 0, .slice none 0 0, .slice none 0 0] 101)).drew := ⟨_, rfl⟩
    rw [← hxa]
    have hba : Below (W1).heap.size (W1) xa := by rw [hxa]; exact (al0).drew
    have Hba := kH (Hbr.out.trans (hba.mono Hbr.out.size))
    obtain ⟨gb, hgb⟩ : ∃ gb, gb = (W1).heap.size := ⟨_, rfl⟩
    have Hgrow := kH (show xa.heap[gb]? = some (.cells #[.slice none 0 0, .slice none 0 0, .slice none 0 0] 101 (0, 0)) from by rw [hxa, hgb]; exact heap_alloc_new _ _)
    have Hgb := kH (show W1.heap.size ≤ gb from by rw [hgb]; exact Hbr.out.size)
    rw [← hgb]
    clear hba hxa hgb
    refine hKK.out _ _ (HS.out _ Hba.out) (fun hHeld => ?_)
    clear hKK KK
    try simp only [Act.put, yL]
    refine rd 6 (fun KK hKK => ?_)
    clear hHeld
    go_simp
    (with_reducible refine (HC1.out _ Hba.out).mono ?_)
    rintro e x1 ⟨v1, rfl, hown, hb'⟩
    obtain ⟨A1, k1, rfl⟩ := hown.form
    have Hb1 := kH (Hba.out.trans (hb'.mono Hba.out.size))
    have HO1 := kH hown
    have HX1 := kH (show W1.heap.size ≤ (xa).heap.size from Hba.out.size)
    replace Hgrow := kH ((hb'.block _ (gA Hgrow.out).1).trans Hgrow.out)
    clear hown hb'
    refine hKK.out _ _ (HS.out _ Hb1.out) (fun hHeld => ?_)
    clear hKK KK
    try simp only [Act.put, yL]
    refine rd 13 (fun KK hKK => ?_)
    clear hHeld
    go_simp
    (with_reducible refine (HC2.out _ Hb1.out).mono ?_)
    rintro e x2 ⟨v2, rfl, hown, hb'⟩
    obtain ⟨A2, k2, rfl⟩ := hown.form
    have Hb2 := kH (Hb1.out.trans (hb'.mono Hb1.out.size))
    have HO2 := kH hown
    have HX2 := kH (show W1.heap.size ≤ (x1).heap.size ∧ ∀ g, (Value.slice A1 L.length k1).ownBlock = some g → (Value.slice A2 Q.length k2).ownBlock ≠ some g from ⟨Hb1.out.size, fun g e e' => by
     obtain ⟨_, cur, fr, hc⟩ := HO1.out.row g e
     have h1 := (gA hc).1
     have h2 := (hown.row g e').1
     omega⟩)
    replace Hgrow := kH ((hb'.block _ (gA Hgrow.out).1).trans Hgrow.out)
    replace HO1 := kH (HO1.out.below (ndF_rel _) hb')
    clear hown hb'
    refine hKK.out _ _ (HS.out _ Hb2.out) (fun hHeld => ?_)
    clear hKK KK
    try simp only [Act.put, yL]
    refine tk 14 ?_ hHeld (fun Y hY => ?_) ?_
    rotate_left
    · (go_simp) <;> with_reducible rfl
    try simp only [Act.put, yL]
    have hrg := Hgrow.out
    obtain ⟨z0, z1, z2, zf⟩ := rl_cells hrg
    have zf0 := zf 0
    have zf1 := zf 1
    have zf2 := zf 2
    clear zf hrg
    refine rd 16 (fun KK hKK => ?_)
    clear hHeld
    go_simp
    refine hKK.out _ _ (HS2.out _ _ _ _ gb Hgb.out Hb2.out) (fun hHeld => ?_)
    clear hKK KK
    try simp only [Act.put, yL]
    refine wpAnyH_done (by kernel_rfl) ?_ _
    go_wp2
    go_meet
    refine ⟨gb, _, _, rfl, kH ⟨Hgb.out, set3_row _ _ _ Hgrow.out, (HO1.out.other (set3_grown x2 gb _ _ _) (fun g cur T fr e hc => form_ne e Hgrow.out hc)).weak HX1.out, (HO2.out.other (set3_grown x2 gb _ _ _) (fun g cur T fr e hc => form_ne e Hgrow.out hc)).weak HX2.out.1, OwnC.nil_ _ _, HX2.out.2⟩, kH (set3_below _ _ _ Hb2.out Hgb.out)⟩
 case rest =>
  obtain ⟨gb, v1, v2, rfl, HF, HB⟩ := hcut
  obtain ⟨A1, k1, e1⟩ := HF.out.o1.form
  obtain ⟨A2, k2, e2⟩ := HF.out.o2.form
  subst e1 e2
  obtain ⟨W2, hW2⟩ : ∃ W2, W2 = (wc.alloc (.cells #[.int .i64 (-1), .int .i64 (-1)] 3)).alloc (.cells #[.int .i64 (-1), .int .i64 (-1)] 3) := ⟨_, rfl⟩
  obtain ⟨ga, hga⟩ : ∃ ga, ga = wc.heap.size := ⟨_, rfl⟩
  obtain ⟨gh, hgh⟩ : ∃ gh, gh = wc.heap.size + 1 := ⟨_, rfl⟩
  have Hgg := kH (show ga < gh ∧ W1.heap.size ≤ ga ∧ ga = wc.heap.size from ⟨by omega, by rw [hga]; exact HB.out.size, hga⟩)
  have HTa := kH (show Tab W2 ga [] from by rw [hW2, hga]; exact row_alloc (heap_alloc_new wc _) _)
  have HTh := kH (show Tab W2 gh [] from by rw [hW2, hgh]; exact new_two wc _ _)
  have Hb2 := kH (show Below wc.heap.size wc W2 from by rw [hW2]; exact (al0).alloc (by simp) _)
  go_upto_region 3 with (fail)
  rw [← hW2, ← hgh, ← hga]
  clear hW2 hga hgh
  go_wp2_with fail
  go_loopg [6, 7, 8] (L.length + 1) (fun gg s6 s7 s8 wr => ∃ j : Nat, j ≤ L.length ∧ s6 = .int .i64 ((KT.seen 33 [] (L.take j)).length : Int) ∧ s7 = .int .i64 ((KT.seen 34 [] (L.take j)).length : Int) ∧ s8 = .int .i64 (j : Int) ∧ gg + j = L.length + 1 ∧ Hid (Tab wr ga (KT.seen 33 [] (L.take j))) ∧ Hid (Tab wr gh (KT.seen 34 [] (L.take j))) ∧ Hid (Below wc.heap.size wc wr))
  case atStart => exact ⟨0, Nat.zero_le _, rfl, rfl, rfl, rfl, HTa, HTh, Hb2⟩
  case round =>
   obtain ⟨j, hj, rfl, rfl, rfl, hgk, HTa, HTh, Hb⟩ := hrel
   have Hgk := kH hgk
   clear hgk
   have HFr := kH (HF.out.below Hb.out)
   obtain ⟨f0, f1, f2, _⟩ := rl_cells HFr.out.row
   by_cases hjl : j < L.length
   · obtain ⟨x, b, off, A, c, hx, hAe, hb, c0, c1, c2, c3, c4, hsl, i0, i1⟩ := nd_cells (HFr.out.o1.stAt (ndF_rel _) rfl) hjl
     subst hAe
     have hxm := List.mem_of_getElem? hx
     have htk : L.take (j + 1) = L.take j ++ [x] := by rw [List.take_add_one, hx]; rfl
     have Hst := kH (fun o => (by rw [htk]; exact KT.seen_snoc o [] (L.take j) x : KT.seen o [] (L.take (j + 1)) = KT.stV o (KT.seen o [] (L.take j)) x))
     have hll := HLl.out
     have hs33 := Nat.le_trans (KT.seen_len 33 (L.take j) []) (by simp; omega : _ ≤ 12)
     have hs34 := Nat.le_trans (KT.seen_len 34 (L.take j) []) (by simp; omega : _ ≤ 12)
     have Him := kH (HLi.out x hxm)
     obtain ⟨S33, hS33⟩ : ∃ S, S = KT.seen 33 [] (L.take j) := ⟨_, rfl⟩
     obtain ⟨S34, hS34⟩ : ∃ S, S = KT.seen 34 [] (L.take j) := ⟨_, rfl⟩
     have Hst33 := kH (show KT.seen 33 [] (L.take (j + 1)) = KT.stV 33 S33 x from by rw [hS33]; exact Hst.out 33)
     have Hst34 := kH (show KT.seen 34 [] (L.take (j + 1)) = KT.stV 34 S34 x from by rw [hS34]; exact Hst.out 34)
     rw [← hS33] at hs33 HTa ⊢
     rw [← hS34] at hs34 HTh ⊢
     have Hi0 := kH i0
     obtain ⟨w8, hw8⟩ : ∃ w8, w8 = wr.alloc (.cells #[.int .i64 x.op, .int .i64 x.w, .int .i64 x.fl, .slice A x.args.length c, .int .u32 x.imm] 62) := ⟨_, rfl⟩
     have hb8 : Below wr.heap.size wr w8 := by rw [hw8]; exact al0
     have hr8 : w8.heap[wr.heap.size]? = some (.cells #[.int .i64 x.op, .int .i64 x.w, .int .i64 x.fl, .slice A x.args.length c, .int .u32 x.imm] 62 (0, 0)) := by rw [hw8]; exact heap_alloc_new wr _
     have Hr8 := kH hr8
     have Hb8 := kH (Hb.out.trans (hb8.mono Hb.out.size))
     have Ha8 := kH (HTa.out.keep (hb8.block _ HTa.out.lt))
     have Hh8 := kH (HTh.out.keep (hb8.block _ HTh.out.lt))
     have Hla := kH HTa.out.lt
     have Hlh := kH HTh.out.lt
     obtain ⟨r0, _, _, _, r4⟩ := cells5 hr8
     clear hx hxm htk Hst hS33 hS34 hsl hb8 hr8 HTa HTh
     go_upto_region 8 with (fail)
     rw [← hw8]
     clear hw8 c0 c1 c2 c3 c4 f0 f1 f2
     by_cases h33 : x.op = 33
     · have q33 : (x.op == 33) = true := by rw [h33]; rfl
       have q34 : (x.op == 34) = false := by rw [h33]; rfl
       have hi2 := Him.out (.inl h33)
       have t0 := Ha8.out.cell i0 hi2
       have e33 := kH (show KT.stV 33 S33 x = KT.meet S33 x.imm from by unfold KT.stV; rw [if_pos h33])
       have e34 := kH (show KT.stV 34 S34 x = S34 from by unfold KT.stV; rw [if_neg (by omega)])
       clear h33
       by_cases hm : x.imm ∈ S33
       · have hlt : ¬ KT.ix S33 x.imm < 0 := fun h => KT.ix_lt.1 h hm
         have Hm := kH hm
         clear hm
         go_wp2_with fail
         go_roundg (gk - 1)
         case measure => have := Hgk.out; omega
         case rel =>
          have := Hgk.out
          refine ⟨j + 1, by omega, ?_, ?_, by go_num, by omega, ?_, ?_, Hb8⟩
          · rw [Hst33.out, e33.out, KT.meet_in Hm.out]
          · rw [Hst34.out, e34.out]
          · rw [Hst33.out, e33.out, KT.meet_in Hm.out]; exact Ha8
          · rw [Hst34.out, e34.out]; exact Hh8
       · have hlt : KT.ix S33 x.imm < 0 := KT.ix_lt.2 hm
         have Hm := kH hm
         clear hm
         have nf := frozen_row Ha8.out x.imm.toNat
         obtain ⟨w9, hw9⟩ : ∃ w9, w9 = w8.setCell ⟨ga, x.imm.toNat, none⟩ (.int .i64 (S33.length : Int)) := ⟨_, rfl⟩
         have Ha9 := kH (show Tab w9 ga (KT.meet S33 x.imm) from by rw [hw9]; exact Ha8.out.meet i0 hi2 Hm.out)
         have Hh9 := kH (show Tab w9 gh S34 from Hh8.out.keep (by rw [hw9]; exact set_block (by have := Hgg.out.1; omega) Hh8.out.lt))
         have Hb9 := kH (show Below wc.heap.size wc w9 from by rw [hw9]; exact Hb8.out.setCell (p := ⟨ga, x.imm.toNat, none⟩) (show wc.heap.size ≤ _ from by have := Hgg.out; dsimp only; omega) _)
         have hr9 : w9.heap[wr.heap.size]? = some (.cells #[.int .i64 x.op, .int .i64 x.w, .int .i64 x.fl, .slice A x.args.length c, .int .u32 x.imm] 62 (0, 0)) := by
          rw [hw9, set_block (by have := Hla.out; have := Hlh.out; omega) (gA Hr8.out).1]
          exact Hr8.out
         go_upto_region 10 with (fail)
         rw [← hw9]
         clear hw9 nf t0 r0 r4
         obtain ⟨r0, _, _, _, r4⟩ := cells5 hr9
         clear hr9
         go_wp2_with fail
         go_roundg (gk - 1)
         case measure => have := Hgk.out; omega
         case rel =>
          have := Hgk.out
          refine ⟨j + 1, by omega, ?_, ?_, by go_num, by omega, ?_, ?_, Hb9⟩
          · rw [Hst33.out, e33.out, KT.meet_len Hm.out]; go_num
          · rw [Hst34.out, e34.out]
          · rw [Hst33.out, e33.out]; exact Ha9
          · rw [Hst34.out, e34.out]; exact Hh9
     by_cases h34 : x.op = 34
     · have q34 : (x.op == 34) = true := by rw [h34]; rfl
       have q33 : (x.op == 33) = false := by rw [h34]; rfl
       have hi2 := Him.out (.inr h34)
       have t0 := Hh8.out.cell i0 hi2
       have e34 := kH (show KT.stV 34 S34 x = KT.meet S34 x.imm from by unfold KT.stV; rw [if_pos h34])
       have e33 := kH (show KT.stV 33 S33 x = S33 from by unfold KT.stV; rw [if_neg (by omega)])
       clear h34
       by_cases hm : x.imm ∈ S34
       · have hlt : ¬ KT.ix S34 x.imm < 0 := fun h => KT.ix_lt.1 h hm
         have Hm := kH hm
         clear hm
         go_wp2_with fail
         go_roundg (gk - 1)
         case measure => have := Hgk.out; omega
         case rel =>
          have := Hgk.out
          refine ⟨j + 1, by omega, ?_, ?_, by go_num, by omega, ?_, ?_, Hb8⟩
          · rw [Hst33.out, e33.out]
          · rw [Hst34.out, e34.out, KT.meet_in Hm.out]
          · rw [Hst33.out, e33.out]; exact Ha8
          · rw [Hst34.out, e34.out, KT.meet_in Hm.out]; exact Hh8
       · have hlt : KT.ix S34 x.imm < 0 := KT.ix_lt.2 hm
         have Hm := kH hm
         clear hm
         have nf := frozen_row Hh8.out x.imm.toNat
         obtain ⟨w9, hw9⟩ : ∃ w9, w9 = w8.setCell ⟨gh, x.imm.toNat, none⟩ (.int .i64 (S34.length : Int)) := ⟨_, rfl⟩
         have Hh9 := kH (show Tab w9 gh (KT.meet S34 x.imm) from by rw [hw9]; exact Hh8.out.meet i0 hi2 Hm.out)
         have Ha9 := kH (show Tab w9 ga S33 from Ha8.out.keep (by rw [hw9]; exact set_block (by have := Hgg.out.1; omega) Ha8.out.lt))
         have Hb9 := kH (show Below wc.heap.size wc w9 from by rw [hw9]; exact Hb8.out.setCell (p := ⟨gh, x.imm.toNat, none⟩) (show wc.heap.size ≤ _ from by have := Hgg.out; dsimp only; omega) _)
         have hr9 : w9.heap[wr.heap.size]? = some (.cells #[.int .i64 x.op, .int .i64 x.w, .int .i64 x.fl, .slice A x.args.length c, .int .u32 x.imm] 62 (0, 0)) := by
          rw [hw9, set_block (by have := Hla.out; have := Hlh.out; omega) (gA Hr8.out).1]
          exact Hr8.out
         go_upto_region 13 with (fail)
         rw [← hw9]
         clear hw9 nf t0 r0 r4
         obtain ⟨r0, _, _, _, r4⟩ := cells5 hr9
         clear hr9
         go_wp2_with fail
         go_roundg (gk - 1)
         case measure => have := Hgk.out; omega
         case rel =>
          have := Hgk.out
          refine ⟨j + 1, by omega, ?_, ?_, by go_num, by omega, ?_, ?_, Hb9⟩
          · rw [Hst33.out, e33.out]
          · rw [Hst34.out, e34.out, KT.meet_len Hm.out]; go_num
          · rw [Hst33.out, e33.out]; exact Ha9
          · rw [Hst34.out, e34.out]; exact Hh9
     have q33 : (x.op == 33) = false := by simpa using h33
     have q34 : (x.op == 34) = false := by simpa using h34
     have e33 := kH (show KT.stV 33 S33 x = S33 from by unfold KT.stV; rw [if_neg h33])
     have e34 := kH (show KT.stV 34 S34 x = S34 from by unfold KT.stV; rw [if_neg h34])
     clear h33 h34
     go_wp2_with fail
     go_roundg (gk - 1)
     case measure => have := Hgk.out; omega
     case rel =>
      have := Hgk.out
      refine ⟨j + 1, by omega, ?_, ?_, by go_num, by omega, ?_, ?_, Hb8⟩
      · rw [Hst33.out, e33.out]
      · rw [Hst34.out, e34.out]
      · rw [Hst33.out, e33.out]; exact Ha8
      · rw [Hst34.out, e34.out]; exact Hh8
   · obtain rfl : j = L.length := by omega
     rw [List.take_length] at HTa HTh ⊢
     obtain ⟨V, hV⟩ : ∃ V, V = KT.seen 33 [] L := ⟨_, rfl⟩
     obtain ⟨U, hU⟩ : ∃ U, U = KT.seen 34 [] L := ⟨_, rfl⟩
     have HLe := kH (show ∀ x ∈ L, (x.op = 33 → x.imm ∈ V ∧ x.imm < 2) ∧ (x.op = 34 → x.imm ∈ U ∧ x.imm < 2) from fun x hx => ⟨fun e => ⟨by rw [hV, KT.seen_mem]; exact .inr ⟨x, hx, e, rfl⟩, HLi.out x hx (.inl e)⟩, fun e => ⟨by rw [hU, KT.seen_mem]; exact .inr ⟨x, hx, e, rfl⟩, HLi.out x hx (.inr e)⟩⟩)
     have HQe := kH (show ∀ x ∈ Q, (x.op = 33 → x.imm ∈ V ∧ x.imm < 2) ∧ (x.op = 34 → x.imm ∈ U ∧ x.imm < 2) from fun x hx => ⟨fun e => ⟨by rw [hV]; exact HSd.out.right_in Hok.out (.inl rfl) x hx e, HQi.out x hx (.inl e)⟩, fun e => ⟨by rw [hU]; exact HSd.out.right_in Hok.out (.inr rfl) x hx e, HQi.out x hx (.inr e)⟩⟩)
     have HPe := kH (show ∀ c ∈ r.pre, c.hole ∈ U from fun c hc => by rw [hU]; exact HSd.out.pre_in Hok.out c hc)
     have HVl := kH (show V.length ≤ 12 from by have := KT.seen_len 33 L []; have := HLl.out; simp at *; rw [hV]; omega)
     have HUl := kH (show U.length ≤ 12 from by have := KT.seen_len 34 L []; have := HLl.out; simp at *; rw [hU]; omega)
     have HV := kH hV
     have HU := kH hU
     rw [← hV] at HTa ⊢
     rw [← hU] at HTh ⊢
     clear hV hU
     obtain ⟨W4, hW4⟩ : ∃ W4, W4 = wr.alloc (.cells #[.slice A1 L.length k1, .slice A2 Q.length k2] 22) := ⟨_, rfl⟩
     have hb4 : Below wr.heap.size wr W4 := by rw [hW4]; exact al0
     obtain ⟨gl, hgl⟩ : ∃ gl, gl = wr.heap.size := ⟨_, rfl⟩
     have HE4 := kH (show En ga gh gl V U (.slice A1 L.length k1) (.slice A2 Q.length k2) W4 from ⟨HTa.out.keep (hb4.block _ HTa.out.lt), HTh.out.keep (hb4.block _ HTh.out.lt), by rw [hW4, hgl]; exact heap_alloc_new wr _⟩)
     have HF4 := kH (HFr.out.below hb4)
     have HBr := kH (HB.out.trans (Hb.out.mono HB.out.size))
     have HB4 := kH (show Below W1.heap.size W1 W4 from HBr.out.trans (hb4.mono HBr.out.size))
     clear hb4 hj
     go_upto_region 15 with (fail)
     rw [← hW4, ← hgl]
     clear hW4 hgl f0 f1 f2
     go_wp2_with fail
     go_loopg [11] 3 (fun gg s11 wr => ∃ s : Nat, s ≤ 2 ∧ s11 = .int .i64 (s : Int) ∧ gg + s = 3 ∧ Hid (FSt W1.heap.size gb (.slice A1 L.length k1) (.slice A2 Q.length k2) (.slice none 0 0) (if s = 0 then L else L.map (KT.ren V U)) (if s ≤ 1 then Q else Q.map (KT.ren V U)) [] wr) ∧ Hid (En ga gh gl V U (.slice A1 L.length k1) (.slice A2 Q.length k2) wr) ∧ Hid (Below W1.heap.size W1 wr))
     case atStart => exact ⟨0, by omega, rfl, rfl, HF4, HE4, HB4⟩
     case round =>
      obtain ⟨gO, rfl⟩ : ∃ g, g = gk := ⟨_, rfl⟩
      obtain ⟨s, hs, rfl, hgk, HFs, HEs, HBs⟩ := hrel
      obtain ⟨w5, rfl⟩ : ∃ w, w = wr := ⟨_, rfl⟩
      have HgO := kH hgk
      clear hgk
      by_cases hs2 : s < 2
      · obtain ⟨l0, hl0⟩ : ∃ l0, l0 = if s = 0 then L else Q := ⟨_, rfl⟩
        have Hl0 := kH hl0
        have Hle := kH (show ∀ x ∈ l0, (x.op = 33 → x.imm ∈ V ∧ x.imm < 2) ∧ (x.op = 34 → x.imm ∈ U ∧ x.imm < 2) from by
         rw [hl0]
         split
         · exact HLe.out
         · exact HQe.out)
        have hn0 : l0.length ≤ 12 := by
         rw [hl0]
         split
         · exact HLl.out
         · exact HQl.out
        have HG := kH (show Fs s W1.heap.size gb (.slice A1 L.length k1) (.slice A2 Q.length k2) (.slice none 0 0) (L.map (KT.ren V U)) Q ((l0.take 0).map (KT.ren V U) ++ l0.drop 0) w5 from by
         have h := HFs.out
         unfold Fs
         rw [hl0, if_pos (by omega : s ≤ 1)] at *
         by_cases e : s = 0
         · rw [if_pos e, if_pos e] at *
           simpa using h
         · rw [if_neg e, if_neg e] at *
           simpa using h)
        obtain ⟨As, ks, hls⟩ := HG.out.own.form
        rw [show ((l0.take 0).map (KT.ren V U) ++ l0.drop 0).length = l0.length by simp] at hls
        obtain ⟨n, hn⟩ : ∃ n, n = l0.length := ⟨_, rfl⟩
        rw [← hn] at hls hn0
        have Hls := kH hls
        have Hn := kH hn
        have Hlen := kH (show ∀ k, ((l0.take k).map (KT.ren V U) ++ l0.drop k).length = n from fun k => by rw [List.length_append, List.length_map, List.length_take, List.length_drop, hn]; omega)
        clear hl0 hls hn HFs
        go_wp2_with fail
        go_loopg [12] (n + 1) (fun gg s12 wr => ∃ k : Nat, k ≤ n ∧ s12 = .int .i64 (k : Int) ∧ gg + k = n + 1 ∧ Hid (Fs s W1.heap.size gb (.slice A1 L.length k1) (.slice A2 Q.length k2) (.slice none 0 0) (L.map (KT.ren V U)) Q ((l0.take k).map (KT.ren V U) ++ l0.drop k) wr) ∧ Hid (En ga gh gl V U (.slice A1 L.length k1) (.slice A2 Q.length k2) wr) ∧ Hid (Below W1.heap.size W1 wr))
        case atStart => exact ⟨0, Nat.zero_le _, rfl, by omega, HG, HEs, HBs⟩
        case round =>
         obtain ⟨k, hk, rfl, hgk, HGk, HEk, HBk⟩ := hrel
         have Hgk := kH hgk
         clear hgk
         have e0 := HEk.out.cell hs2
         rw [Hls.out] at e0
         by_cases hkn : k < n
         · obtain ⟨x, g, off, cur, A, c, hx, hA, hB, hg, hc, ⟨i0, i1⟩, hp⟩ := HGk.out.put2 Hls.out (Hlen.out k) hkn
           subst hA
           rw [map_get (by rw [← Hn.out]; exact hkn)] at hx
           have Hx := kH hx
           have Hin := kH (Hle.out x (List.mem_of_getElem? hx))
           have c0 : wr.cell? ⟨g, off + k * 5, none⟩ = some (.int .i64 x.op) := by rw [cell_of_row _ _ _ _ _ (0, 0) hg]; exact hc 0 _ rfl
           have c1 : wr.cell? ⟨g, off + k * 5 + 1, none⟩ = some (.int .i64 x.w) := by rw [cell_of_row _ _ _ _ _ (0, 0) hg]; exact hc 1 _ rfl
           have c2 : wr.cell? ⟨g, off + k * 5 + 2, none⟩ = some (.int .i64 x.fl) := by rw [cell_of_row _ _ _ _ _ (0, 0) hg]; exact hc 2 _ rfl
           have c3 : wr.cell? ⟨g, off + k * 5 + 3, none⟩ = some (.slice A x.args.length c) := by rw [cell_of_row _ _ _ _ _ (0, 0) hg]; exact hc 3 _ rfl
           have c4 : wr.cell? ⟨g, off + k * 5 + 4, none⟩ = some (.int .u32 x.imm) := by rw [cell_of_row _ _ _ _ _ (0, 0) hg]; exact hc 4 _ rfl
           obtain ⟨w8, hw8⟩ : ∃ w8, w8 = wr.alloc (.cells #[.int .i64 x.op, .int .i64 x.w, .int .i64 x.fl, .slice A x.args.length c, .int .u32 x.imm] 62) := ⟨_, rfl⟩
           have hb8 : Below wr.heap.size wr w8 := by rw [hw8]; exact al0
           have hr8 : w8.heap[wr.heap.size]? = some (.cells #[.int .i64 x.op, .int .i64 x.w, .int .i64 x.fl, .slice A x.args.length c, .int .u32 x.imm] 62 (0, 0)) := by rw [hw8]; exact heap_alloc_new wr _
           have Hr8 := kH hr8
           have Hgl := kH (gA hg).1
           have Hg8 := kH ((hb8.block _ Hgl.out).trans hg)
           have HB8 := kH (HBk.out.trans (hb8.mono HBk.out.size))
           have HE8 := kH (HEk.out.below hb8)
           have HG8 := kH (HGk.out.below hb8)
           have Hp := kH (hp w8 hb8)
           have HgB := kH hB
           obtain ⟨r0, _, _, _, r4⟩ := cells5 hr8
           have e8 := HE8.out.cell hs2
           rw [Hls.out] at e8
           have nf := frozen_row Hg8.out (off + k * 5 + 4)
           have d4 : w8.cell? ⟨g, off + k * 5 + 4, none⟩ = some (.int .u32 x.imm) := by rw [cell_of_row _ _ _ _ _ (0, 0) Hg8.out]; exact hc 4 _ rfl
           clear hx hb8 hr8 hg hc hp hB
           go_upto_region 22 with (fail)
           rw [← hw8]
           clear hw8 c0 c1 c2 c3 c4 e0
           by_cases h33 : x.op = 33
           · have q33 : (x.op == 33) = true := by rw [h33]; rfl
             have q34 : (x.op == 34) = false := by rw [h33]; rfl
             obtain ⟨hm, hi2⟩ := Hin.out.1 h33
             have t0 := HE8.out.a.cell i0 hi2
             rw [KT.ix_in hm] at t0
             have hml := List.idxOf_le_length (a := x.imm) (l := V)
             have hSl := HVl.out
             obtain ⟨m, hmm⟩ : ∃ m : Int, m = ((V.idxOf x.imm : Nat) : Int) := ⟨_, rfl⟩
             rw [← hmm] at t0
             have hwm : IntKind.u32.wrap m = m := by rw [IntKind.wrap_u32]; omega
             have hren : KT.ren V U x = { x with imm := m } := by
              unfold KT.ren
              rw [hmm, if_pos h33]
             obtain ⟨w9, hw9⟩ : ∃ w9, w9 = (w8.setCell ⟨g, off + k * 5 + 4, none⟩ (.int .u32 m)).drew := ⟨_, rfl⟩
             have HG9 := kH (show Fs s W1.heap.size gb (.slice A1 L.length k1) (.slice A2 Q.length k2) (.slice none 0 0) (L.map (KT.ren V U)) Q ((l0.take (k + 1)).map (KT.ren V U) ++ l0.drop (k + 1)) w9 from by
              have h := Hp.out m (by omega) (by omega)
              rw [set_next Hx.out hren] at h
              rw [hw9]
              exact h.below (Below.refl _ _).drew)
             have HE9 := kH (show En ga gh gl V U (.slice A1 L.length k1) (.slice A2 Q.length k2) w9 from by rw [hw9]; exact (HE8.out.set Hg8.out).below (Below.refl _ _).drew)
             have HB9 := kH (show Below W1.heap.size W1 w9 from by rw [hw9]; exact (HB8.out.setCell (p := ⟨g, off + k * 5 + 4, none⟩) HgB.out _).drew)
             have hr9 : w9.heap[wr.heap.size]? = some (.cells #[.int .i64 x.op, .int .i64 x.w, .int .i64 x.fl, .slice A x.args.length c, .int .u32 x.imm] 62 (0, 0)) := by
              rw [hw9]
              exact (set_block (by have := Hgl.out; omega) (gA Hr8.out).1).trans Hr8.out
             clear h33 hmm hml hSl hren hm
             go_upto_region 23 with (fail)
             go_region
             rw [← hw9]
             clear hw9 nf t0 r0 r4 d4
             obtain ⟨r0, _, _, _, r4⟩ := cells5 hr9
             clear hr9
             go_wp2_with fail
             go_roundg (gk - 1)
             case measure => have := Hgk.out; omega
             case rel =>
              have := Hgk.out
              exact ⟨k + 1, by omega, by go_num, by omega, HG9, HE9, HB9⟩
           by_cases h34 : x.op = 34
           · have q34 : (x.op == 34) = true := by rw [h34]; rfl
             have q33 : (x.op == 33) = false := by rw [h34]; rfl
             obtain ⟨hm, hi2⟩ := Hin.out.2 h34
             have t0 := HE8.out.h.cell i0 hi2
             rw [KT.ix_in hm] at t0
             have hml := List.idxOf_le_length (a := x.imm) (l := U)
             have hSl := HUl.out
             obtain ⟨m, hmm⟩ : ∃ m : Int, m = ((U.idxOf x.imm : Nat) : Int) := ⟨_, rfl⟩
             rw [← hmm] at t0
             have hwm : IntKind.u32.wrap m = m := by rw [IntKind.wrap_u32]; omega
             have hren : KT.ren V U x = { x with imm := m } := by
              unfold KT.ren
              rw [hmm, if_neg (by omega), if_pos h34]
             obtain ⟨w9, hw9⟩ : ∃ w9, w9 = (w8.setCell ⟨g, off + k * 5 + 4, none⟩ (.int .u32 m)).drew := ⟨_, rfl⟩
             have HG9 := kH (show Fs s W1.heap.size gb (.slice A1 L.length k1) (.slice A2 Q.length k2) (.slice none 0 0) (L.map (KT.ren V U)) Q ((l0.take (k + 1)).map (KT.ren V U) ++ l0.drop (k + 1)) w9 from by
              have h := Hp.out m (by omega) (by omega)
              rw [set_next Hx.out hren] at h
              rw [hw9]
              exact h.below (Below.refl _ _).drew)
             have HE9 := kH (show En ga gh gl V U (.slice A1 L.length k1) (.slice A2 Q.length k2) w9 from by rw [hw9]; exact (HE8.out.set Hg8.out).below (Below.refl _ _).drew)
             have HB9 := kH (show Below W1.heap.size W1 w9 from by rw [hw9]; exact (HB8.out.setCell (p := ⟨g, off + k * 5 + 4, none⟩) HgB.out _).drew)
             have hr9 : w9.heap[wr.heap.size]? = some (.cells #[.int .i64 x.op, .int .i64 x.w, .int .i64 x.fl, .slice A x.args.length c, .int .u32 x.imm] 62 (0, 0)) := by
              rw [hw9]
              exact (set_block (by have := Hgl.out; omega) (gA Hr8.out).1).trans Hr8.out
             clear h34 hmm hml hSl hren hm
             go_upto_region 25 with (fail)
             go_region
             rw [← hw9]
             clear hw9 nf t0 r0 r4 d4
             obtain ⟨r0, _, _, _, r4⟩ := cells5 hr9
             clear hr9
             go_wp2_with fail
             go_roundg (gk - 1)
             case measure => have := Hgk.out; omega
             case rel =>
              have := Hgk.out
              exact ⟨k + 1, by omega, by go_num, by omega, HG9, HE9, HB9⟩
           have q33 : (x.op == 33) = false := by simpa using h33
           have q34 : (x.op == 34) = false := by simpa using h34
           have HG9 := kH (show Fs s W1.heap.size gb (.slice A1 L.length k1) (.slice A2 Q.length k2) (.slice none 0 0) (L.map (KT.ren V U)) Q ((l0.take (k + 1)).map (KT.ren V U) ++ l0.drop (k + 1)) w8 from by
            have h := HG8.out
            have hren : KT.ren V U x = x := by unfold KT.ren; rw [if_neg h33, if_neg h34]
            rw [next_same Hx.out hren] at h
            exact h)
           clear h33 h34
           go_wp2_with fail
           go_roundg (gk - 1)
           case measure => have := Hgk.out; omega
           case rel =>
            have := Hgk.out
            exact ⟨k + 1, by omega, by go_num, by omega, HG9, HE8, HB8⟩
         · obtain rfl : k = n := by omega
           go_wp2_with fail
           go_roundg (gO - 1)
           case measure => have := HgO.out; omega
           case rel =>
            have := HgO.out
            refine ⟨s + 1, by omega, by go_num, by omega, kH ?_, HEk, HBk⟩
            have h := HGk.out
            rw [List.take_of_length_le (by rw [← Hn.out]; exact Nat.le_refl _), List.drop_eq_nil_iff.2 (by rw [← Hn.out]; exact Nat.le_refl _), List.append_nil] at h
            unfold Fs at h
            rw [Hl0.out] at h
            obtain rfl | rfl : s = 0 ∨ s = 1 := by omega
            · simpa using h
            · simpa using h
      · obtain rfl : s = 2 := by omega
        have HFz := kH (show FSt W1.heap.size gb (.slice A1 L.length k1) (.slice A2 Q.length k2) (.slice none 0 0) (L.map (KT.ren V U)) (Q.map (KT.ren V U)) [] w5 from by simpa using HFs.out)
        clear HFs
        go_wp2_with fail
        go_loopg [14] (np + 1) (fun gg s14 wr => ∃ (j : Nat) (v3 : Value), j ≤ np ∧ s14 = .int .i64 (j : Int) ∧ gg + j = np + 1 ∧ Hid (FSt W1.heap.size gb (.slice A1 L.length k1) (.slice A2 Q.length k2) v3 (L.map (KT.ren V U)) (Q.map (KT.ren V U)) ((r.pre.take j).map fun c => { c with hole := ((U.idxOf c.hole : Nat) : Int) }) wr) ∧ Hid (Tab wr gh U) ∧ Hid (Below W1.heap.size W1 wr))
        case atStart => exact ⟨0, _, Nat.zero_le _, rfl, by omega, HFz, kH HEs.out.h, HBs⟩
        case round =>
         obtain ⟨j, v3, hj, rfl, hgk, HFj, HTj, HBj⟩ := hrel
         have Hgk := kH hgk
         clear hgk
         have hpl := HR1.out.sp.len
         have Hjl := kH (show ((r.pre.take j).map fun c : R.Cd => { c with hole := ((U.idxOf c.hole : Nat) : Int) }).length = j from by rw [List.length_map, List.length_take]; omega)
         obtain ⟨A3, k3, e3⟩ := HFj.out.o3.form
         rw [Hjl.out] at e3
         subst e3
         have Hpl := kH hpl
         have hp4 := Hok.out.plen
         rw [hpl] at hp4
         clear hpl
         obtain ⟨p0, p1, p2, _⟩ := rl_cells (Hrow.out _ HBj.out)
         by_cases hjn : j < np
         · obtain ⟨x, b, off, hx, hA, hb, x0, x1, x2, i0, i1⟩ := cd_cells (HR1.out.below HBj.out).sp hjn
           subst hA
           have hxm := List.mem_of_getElem? hx
           have hcd := List.all_eq_true.1 Hok.out.cd x hxm
           have hho : 0 ≤ x.hole ∧ x.hole < 2 := by
            unfold R.cdOk at hcd
            simp only [Bool.and_eq_true, decide_eq_true_eq] at hcd
            omega
           obtain ⟨hh0, hh2⟩ := hho
           have hin := HPe.out x hxm
           obtain ⟨m, hmm⟩ : ∃ m : Int, m = ((U.idxOf x.hole : Nat) : Int) := ⟨_, rfl⟩
           have Hm := kH hmm
           have Hx := kH hx
           have Hi := kH (show 0 ≤ x.imm ∧ x.imm < 4294967296 from ⟨i0, i1⟩)
           obtain ⟨w8, hw8⟩ : ∃ w8, w8 = wr.alloc (.cells #[.int .i64 x.kind, .int .i64 x.hole, .int .u32 x.imm] 88) := ⟨_, rfl⟩
           have hb8 : Below wr.heap.size wr w8 := by rw [hw8]; exact al0
           have hr8 : w8.heap[wr.heap.size]? = some (.cells #[.int .i64 x.kind, .int .i64 x.hole, .int .u32 x.imm] 88 (0, 0)) := by rw [hw8]; exact heap_alloc_new wr _
           have HT8 := kH (HTj.out.keep (hb8.block _ HTj.out.lt))
           have t0 := HT8.out.cell hh0 hh2
           rw [KT.ix_in hin, ← hmm] at t0
           obtain ⟨q0, q1, q2, qf⟩ := rl_cells hr8
           have qf1 := qf 1
           obtain ⟨w9, hw9⟩ : ∃ w9, w9 = w8.setCell ⟨wr.heap.size, 1, none⟩ (.int .i64 m) := ⟨_, rfl⟩
           have hr9 : w9.heap[wr.heap.size]? = some (.cells #[.int .i64 x.kind, .int .i64 m, .int .u32 x.imm] 88 (0, 0)) := by
            rw [hw9]
            have := heap_setCell_same w8 wr.heap.size 1 _ _ (.int .i64 m) hr8
            rw [this]
            rfl
           have hb9 : Below wr.heap.size wr w9 := by rw [hw9]; exact hb8.setCell (p := ⟨wr.heap.size, 1, none⟩) (Nat.le_refl _) _
           have HF9 := kH (HFj.out.below hb9)
           have HT9 := kH (HTj.out.keep (hb9.block _ HTj.out.lt))
           have HB9 := kH (show Below W1.heap.size W1 w9 from HBj.out.trans (hb9.mono HBj.out.size))
           have Hr9 := kH hr9
           clear hx hxm hcd hin hmm hb8 hr8 hb9 hr9 hb i0 i1 qf
           go_upto_region 30 with (fail)
           rw [← hw8]
           clear hw8 x0 x1 x2 p0 p1 p2
           go_upto_region 31 with (fail)
           rw [← hw9]
           clear hw9 t0 q0 q1 q2 qf1
           obtain ⟨q0, q1, q2, _⟩ := rl_cells Hr9.out
           obtain ⟨z0, z1, z2, _⟩ := rl_cells HF9.out.row
           obtain ⟨us, ho, hr, _⟩ := HF9.out.o3
           rw [Hjl.out] at ho
           have Hus := kH (show us.length = ((r.pre.take j).map fun c : R.Cd => { c with hole := ((U.idxOf c.hole : Nat) : Int) }).length * 3 from by rw [Hjl.out]; exact ho.1)
           have Ho := kH ho
           have Hr := kH hr
           obtain ⟨wa, hwa⟩ : ∃ wa, wa = w9.alloc (.cells #[.int .i64 x.kind, .int .i64 m, .int .u32 x.imm] 88) := ⟨_, rfl⟩
           have Hba := kH (show Below w9.heap.size w9 wa from by rw [hwa]; exact al0)
           have Hwa := kH hwa
           obtain ⟨B9, hB9⟩ : ∃ B9, B9 = w9.heap.size := ⟨_, rfl⟩
           have HB9s := kH hB9
           clear ho hr hwa hB9
           go_wp2_with (at_builtin; refine wpList_append_cells rfl (.tmp 157) (.tmp 159) 31 rfl 88 (.agg #[.int .i64 0, .int .i64 0, .int .u32 0]) 3 24 Tryz.underlying31 infoCd rfl (.slice A3 j k3) j us rfl Ho.out #[.int .i64 x.kind, .int .i64 m, .int .u32 x.imm] rfl (by simp [Value.oneCell']) 88 w9.heap.size rfl rfl (by omega) (by decide) ?_; intro v' w11 hown hgr hat; rw [← Hwa.out] at hgr; obtain ⟨A6, k6, e6⟩ := hown.form; subst e6; obtain ⟨g0, G1, G2, G3⟩ := HF9.out.app (w' := w11) (y := { x with hole := m }) HB9.out.size Hus.out (fun k y h => Hr.out k y h) Hba.out hgr (by rcases hat with e | e; exact .inl e; exact .inr ⟨_, e, by have := HB9.out.size; omega⟩) (by rw [Hjl.out]; exact hown) Hi.out; have HG1 := kH G1; have HG2 := kH (G2 _ _ HT9.out); have HG3 := kH (G3 _ HB9.out); obtain ⟨z0, z1, z2, zf⟩ := rl_cells g0; have zf2 := zf 2; clear g0 G1 G2 G3 hown hgr hat zf)
           go_roundg (gk - 1)
           case measure => have := Hgk.out; omega
           case rel =>
            have := Hgk.out
            refine ⟨j + 1, .slice A6 (j + 1) k6, by omega, by go_num, by omega, kH ?_, HG2, HG3⟩
            have h := HG1.out
            rw [List.take_add_one, Hx.out, List.map_append]
            rw [Hm.out] at h
            exact h
         · obtain rfl : j = np := by omega
           have HFe := kH (show FSt W1.heap.size gb (.slice A1 L.length k1) (.slice A2 Q.length k2) (.slice A3 j k3) (KT.frm L Q r.pre).left (KT.frm L Q r.pre).right (KT.frm L Q r.pre).pre wr from by
            have h := HFj.out
            rw [List.take_of_length_le (by rw [Hpl.out]; exact Nat.le_refl _), HV.out, HU.out] at h
            exact h)
           clear HFj
           have hrg := Hrow2.out _ HBj.out
           have HRg := kH hrg
           obtain ⟨y0, y1, y2, yf⟩ := rl_cells hrg
           have yf0 := yf 0
           have yf1 := yf 1
           have yf2 := yf 2
           obtain ⟨z0, z1, z2, _⟩ := rl_cells HFe.out.row
           clear yf hrg
           go_wp2
           (try simp only [Exit.inBlock, Exit.then])
           refine bodyPost_ret (results_cell_row rfl _ _ (W.heap.size + 1) _ _ (0, 0) _ rfl (set3_row _ _ _ HRg.out) Tryz.underlying101 rfl (by kernel_rfl)) rfl ?_
           have hs3 := set3_grown wr (W.heap.size + 1) (.slice A1 L.length k1) (.slice A2 Q.length k2) (.slice A3 j k3)
           refine ⟨_, _, _, rfl, ⟨(HFe.out.o1.other hs3 (fun g cur T fr e hc => form_ne e HRg.out hc)).weak HB1.out.size, (HFe.out.o2.other hs3 (fun g cur T fr e hc => form_ne e HRg.out hc)).weak HB1.out.size, (HFe.out.o3.other hs3 (fun g cur T fr e hc => form_nc e HRg.out hc)).weak HB1.out.size⟩, set3_below _ _ _ (HB1.out.trans (HBj.out.mono HB1.out.size)) (by omega)⟩
end RF
end
section
open Go.RowKit
theorem cdStruct : Tryz.prog.underlying 88 = some (.struct (Tryz.prog.fieldsOf 88)) := by kernel_rfl
theorem cdHeld : Tryz.prog.stoodInHeld 88 = false := by kernel_rfl
theorem cdGuard : Tryz.prog.eqGuardType Tryz.prog.depth 88 = false := by kernel_rfl
theorem cdFields : ∃ f0 f1 f2 : Field, (Tryz.prog.fieldsOf 88).toList = [f0, f1, f2] ∧ (f0.name ≠ "_" ∧ f1.name ≠ "_" ∧ f2.name ≠ "_") ∧ (f0.type = 3 ∧ f1.type = 3 ∧ f2.type = 26) ∧ f0.offset = 0 ∧ f1.offset = 1 ∧ f2.offset = 2 := by
 have h : Tryz.prog.underlying 88 = some (.struct (Tryz.prog.fieldsOf 88)) := cdStruct
 rw [Tryz.underlying88] at h
 injection h with h
 injection h with h
 rw [← h]
 exact ⟨_, _, _, rfl, ⟨by decide, by decide, by decide⟩, ⟨rfl, rfl, rfl⟩, rfl, rfl, rfl⟩
theorem run_eql_cd (x y : R.Cd) (w : World) : (binOp .eql 88 (.agg #[.int .i64 x.kind, .int .i64 x.hole, .int .u32 x.imm]) (.agg #[.int .i64 y.kind, .int .i64 y.hole, .int .u32 y.imm])).run Tryz.prog w = .ok (.bool (decide (x = y))) w := by
 obtain ⟨f0, f1, f2, hf, ⟨n0, n1, n2⟩, ⟨t0, t1, t2⟩, o0, o1, o2⟩ := cdFields
 rw [run_eql_struct, show (10000 : Nat) = 9999 + 1 from rfl, run_equalIn_agg _ _ _ _ _ cdStruct cdHeld, hf]
 have c0 : Tryz.prog.cellsOf 3 = 1 := by kernel_rfl
 have c1 : Tryz.prog.cellsOf 26 = 1 := by kernel_rfl
 have e : (9999 : Nat) = 9998 + 1 := rfl
 rw [e]
 generalize 9998 = d
 have i0 := fun a b => run_equalIn_int (P := Tryz.prog) w d 3 .i64 .i64 a b Tryz.underlying3
 have i1 := fun a b => run_equalIn_int (P := Tryz.prog) w d 26 .u32 .u32 a b Tryz.underlying26
 have hd : decide (x = y) = ((x.kind == y.kind) && ((x.hole == y.hole) && (x.imm == y.imm))) := by
  obtain ⟨a, b, c⟩ := x
  obtain ⟨a', b', c'⟩ := y
  rw [Bool.eq_iff_iff]
  simp
 rw [hd]
 generalize hb0 : (x.kind == y.kind) = b0
 generalize hb1 : (x.hole == y.hole) = b1
 generalize hb2 : (x.imm == y.imm) = b2
 have j0 := (i0 x.kind y.kind).trans (by rw [hb0])
 have j1 := (i0 x.hole y.hole).trans (by rw [hb1])
 have j2 := (i1 x.imm y.imm).trans (by rw [hb2])
 cases b0 <;> cases b1 <;> cases b2 <;> simp [Op.eqFields, n0, n1, n2, t0, t1, t2, o0, o1, o2, part, c0, c1, go_sem, j0, j1, j2] <;> (simp at hb0 hb1 hb2) <;> simp_all
theorem quiet_cde {C : World → Prop} {K : Act → Prop} {a : Act} {o : Oper} {xo yo : Operand} {T2 : TypeId} (h : o.op = .binOp .eql 88 xo yo T2) (x y : R.Cd) (hx : a.eval xo = .agg #[.int .i64 x.kind, .int .i64 x.hole, .int .u32 x.imm]) (hy : a.eval yo = .agg #[.int .i64 y.kind, .int .i64 y.hole, .int .u32 y.imm])
 (hk : K (a.put o.dst (.bool (decide (x = y))))) : o.quiet Tryz.prog a C K :=
 ⟨_, fun w _ => by
  unfold Oper.quietAt execOp
  rw [h]
  simp only [hx, hy]
  have g : (eqGuard .eql 88 xo yo (.agg #[.int .i64 x.kind, .int .i64 x.hole, .int .u32 x.imm]) (.agg #[.int .i64 y.kind, .int .i64 y.hole, .int .u32 y.imm])).run Tryz.prog w = .ok () w := by
   simp [eqGuard, Sem.run_bind, Sem.run_pure, Result.andThen_ok, go_sem, cdGuard]
  simp only [Sem.run_bind, Sem.run_pure, Result.andThen_ok, g, run_eql_cd]
  exact ⟨rfl, rfl⟩, hk⟩
theorem within_any {a b : List R.Cd} {na ca nb cb : Nat} {Aa Ab : Option Addr} {W : World} (hA : StAt 3 CdR W Aa na a) (hB : StAt 3 CdR W Ab nb b) :
 Calls Tryz.prog 71 #[.slice Aa na ca, .slice Ab nb cb] W fun e W' => e = .returned (.bool (KT.wi a b)) ∧ Below W.heap.size W W' := by
 have hla := hA.le
 have hlb := hB.le
 have HA := kH hA
 have HB := kH hB
 have Hna := kH hA.len
 have Hnb := kH hB.len
 obtain ⟨r, hr⟩ : ∃ r, KT.wi a b = r := ⟨_, rfl⟩
 rw [hr]
 have Hr := kH hr
 clear hA hB hr
 go_enter Tryz.func71, Tryz.ntmps71
 go_wp2
 go_loopg [5] (na + 1) (fun gg s5 wr => ∃ i : Nat, i ≤ na ∧ s5 = .int .i64 (i : Int) ∧ gg + i = na + 1 ∧ Hid (Below W.heap.size W wr) ∧ Hid (KT.wi (a.take i) b = true))
 case atStart => exact ⟨0, Nat.zero_le _, rfl, rfl, kH (Below.refl _ _), kH rfl⟩
 case round =>
  obtain ⟨gO, rfl⟩ : ∃ g, g = gk := ⟨_, rfl⟩
  obtain ⟨i, hi, rfl, hgk, Hb, Hw⟩ := hrel
  obtain ⟨w4, rfl⟩ : ∃ w, w = wr := ⟨_, rfl⟩
  have Hgk := kH hgk
  clear hgk
  by_cases hin : i < na
  · obtain ⟨x, bx, offx, hx, hAx, hbx, x0, x1, x2, _, _⟩ := cd_cells (HA.out.below monoCd Hb.out) hin
    subst hAx
    have Hx := kH hx
    have HX := kH (fun Y (h : Below w4.heap.size w4 Y) => show Y.cell? ⟨bx, offx + i * 3, none⟩ = some (.int .i64 x.kind) ∧ Y.cell? ⟨bx, offx + i * 3 + 1, none⟩ = some (.int .i64 x.hole) ∧ Y.cell? ⟨bx, offx + i * 3 + 2, none⟩ = some (.int .u32 x.imm) from ⟨(h.cell (p := ⟨bx, offx + i * 3, none⟩) hbx).trans x0, (h.cell (p := ⟨bx, offx + i * 3 + 1, none⟩) hbx).trans x1, (h.cell (p := ⟨bx, offx + i * 3 + 2, none⟩) hbx).trans x2⟩)
    clear hx hbx x0 x1 x2
    go_wp2
    go_loopg [6, 7] (nb + 1) (fun gg s6 s7 wz => ∃ k : Nat, k ≤ nb ∧ s6 = .bool (decide (x ∈ b.take k)) ∧ s7 = .int .i64 (k : Int) ∧ gg + k = nb + 1 ∧ Hid (Below w4.heap.size w4 wz))
    case atStart => exact ⟨0, Nat.zero_le _, by simp, rfl, rfl, kH (Below.refl _ _)⟩
    case round =>
     obtain ⟨k, hk, rfl, rfl, hgk2, Hbz⟩ := hrel
     obtain ⟨w5, rfl⟩ : ∃ w, w = wr := ⟨_, rfl⟩
     have Hgk2 := kH hgk2
     clear hgk2
     obtain ⟨f, hf⟩ : ∃ f, decide (x ∈ b.take k) = f := ⟨_, rfl⟩
     rw [hf]
     have Hf := kH hf
     clear hf
     by_cases hkn : k < nb
     · obtain ⟨y, by_, offy, hy, hAy, hby, y0, y1, y2, _, _⟩ := cd_cells (HB.out.below monoCd (Hb.out.trans (Hbz.out.mono Hb.out.size))) hkn
       subst hAy
       obtain ⟨x0, x1, x2⟩ := HX.out _ Hbz.out
       have Hy := kH hy
       have Hst := kH (show decide (x ∈ b.take (k + 1)) = (f || decide (x = y)) from by
        rw [List.take_add_one, hy, ← Hf.out, Bool.eq_iff_iff]
        simp [List.mem_append])
       obtain ⟨ov⟩ := ov_ex w5
       have o0 := ov.cell x0
       have o1 := ov.cell x1
       have o2 := ov.cell x2
       have p0 := ov.cell y0
       have p1 := ov.cell y1
       have p2 := ov.cell y2
       clear hy hby x0 x1 x2 y0 y1 y2
       cases f with
       | true =>
        have Hn := kH (show decide (x ∈ b.take (k + 1)) = true from by rw [Hst.out]; rfl)
        go_upto_region 8 with (fail)
        refine wp_region_ovq ov (by kernel_rfl) (by kernel_rfl) ?_
        repeat (go_big_quiet_step (fail))
        refine wpQuiet_nil ?_
        rintro _ ⟨u, rfl⟩
        have Hbo := kH (Hbz.out.trans ((ov.below u).mono Hbz.out.size))
        clear o0 o1 o2 p0 p1 p2
        generalize ov.f u = w6 at *
        go_wp2
        go_roundg (gk - 1)
        case measure => have := Hgk2.out; omega
        case rel => have := Hgk2.out; exact ⟨k + 1, by omega, by rw [Hn.out], by go_num, by omega, Hbo⟩
       | false =>
        have Hn := kH (show decide (x ∈ b.take (k + 1)) = decide (x = y) from by rw [Hst.out]; rfl)
        go_upto_region 8 with (fail)
        refine wp_region_ovq ov (by kernel_rfl) (by kernel_rfl) ?_
        iterate 10 (go_big_quiet_step (fail))
        refine BigFrame.wpQuiet_want (by rfl) ?_
        intro K hK
        refine quiet_cde rfl x y rfl rfl ?_
        refine hK _ ?_
        obtain ⟨d, hd⟩ : ∃ d, decide (x = y) = d := ⟨_, rfl⟩
        rw [hd] at Hn ⊢
        clear hd hK K
        (try simp only [Act.put, List.setIfInBounds_toArray, List.set_cons_zero, List.set_cons_succ])
        repeat (go_big_quiet_step (fail))
        refine wpQuiet_nil ?_
        rintro _ ⟨u, rfl⟩
        have Hbo := kH (Hbz.out.trans ((ov.below u).mono Hbz.out.size))
        clear o0 o1 o2 p0 p1 p2
        generalize ov.f u = w6 at *
        go_wp2
        go_roundg (gk - 1)
        case measure => have := Hgk2.out; omega
        case rel => have := Hgk2.out; exact ⟨k + 1, by omega, by rw [Hn.out], by go_num, by omega, Hbo⟩
     · obtain rfl : k = nb := by omega
       have Hm := kH (show decide (x ∈ b) = f from by
        rw [← Hf.out, List.take_of_length_le (by rw [Hnb.out]; exact Nat.le_refl _)])
       cases f with
       | true =>
        have Hn := kH (show KT.wi (a.take (i + 1)) b = true from by
         rw [List.take_add_one, Hx.out]
         unfold KT.wi
         rw [Option.toList_some, List.all_append, show ((a.take i).all fun c => decide (c ∈ b)) = true from Hw.out]
         simp only [List.all_cons, List.all_nil, Bool.and_true, Bool.true_and]
         exact Hm.out)
        go_wp2
        go_roundg (gO - 1)
        case measure => have := Hgk.out; omega
        case rel => have := Hgk.out; exact ⟨i + 1, by omega, by go_num, by omega, kH (Hb.out.trans (Hbz.out.mono Hb.out.size)), Hn⟩
       | false =>
        have Hfe := kH (show r = false from by
         rw [← Hr.out]
         unfold KT.wi
         rw [List.all_eq_false]
         exact ⟨x, List.mem_of_getElem? Hx.out, by rw [Hm.out]; simp⟩)
        go_wp2
        go_ret
        exact ⟨by rw [Hfe.out]; rfl, Hb.out.trans (Hbz.out.mono Hb.out.size)⟩
  · obtain rfl : i = na := by omega
    have Hfe := kH (show r = true from by
     have h := Hw.out
     rw [List.take_of_length_le (by rw [Hna.out]; exact Nat.le_refl _)] at h
     rw [← Hr.out, h])
    go_wp2
    go_ret
    exact ⟨by rw [Hfe.out]; rfl, Hb.out⟩
end
end Go.Proofs.YtbiopedpceddeaaGreatDoor
