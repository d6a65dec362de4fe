/- Walks of the reference: a look at a clause. -/
import Derived.Test.YtceelipcclfdmaaW6
namespace Go.Proofs.Ytceelipcclfdmaa
open Go.RowKit

namespace S
def LookPost (of : List Int) (conf : Bool) (c : List Int) (b : Bool) (of' : List Int) (conf' : Bool) : Prop :=
  (b = false ∧ of' = of ∧ conf' = conf ∧ Fine (tro of) c) ∨ (b = true ∧ of' = of ∧ conf' = true ∧ ∀ m ∈ c, val of m < 0) ∨
  (b = true ∧ conf' = conf ∧ ∃ l ∈ c, val of l = 0 ∧ (∀ m ∈ c, m ≠ l → val of m < 0) ∧ of' = put of l)

def Scan (of : List Int) (p : List Int) (lf : Int) (fd : Bool) : Prop :=
  (fd = false ∧ ∀ m ∈ p, val of m < 0) ∨ (fd = true ∧ lf ∈ p ∧ val of lf = 0 ∧ ∀ m ∈ p, m ≠ lf → val of m < 0)

theorem Scan.neg {of p : List Int} {lf : Int} {fd : Bool} {x : Int} (h : Scan of p lf fd) (hx : val of x < 0) : Scan of (p ++ [x]) lf fd := by
  rcases h with ⟨h1, h2⟩ | ⟨h1, h2, h3, h4⟩
  · refine .inl ⟨h1, fun m hm => ?_⟩
    rcases List.mem_append.1 hm with hm | hm
    · exact h2 m hm
    · rw [List.mem_singleton.1 hm]; exact hx
  · refine .inr ⟨h1, by simp [h2], h3, fun m hm hne => ?_⟩
    rcases List.mem_append.1 hm with hm | hm
    · exact h4 m hm hne
    · rw [List.mem_singleton.1 hm]; exact hx
theorem Scan.first {of p : List Int} {lf x : Int} (h : Scan of p lf false) (hx : val of x = 0) : Scan of (p ++ [x]) x true := by
  rcases h with ⟨h1, h2⟩ | ⟨h1, _⟩
  · refine .inr ⟨rfl, by simp, hx, fun m hm hne => ?_⟩
    rcases List.mem_append.1 hm with hm | hm
    · exact h2 m hm
    · exact absurd (List.mem_singleton.1 hm) hne
  · cases h1
theorem Scan.again {of p : List Int} {x : Int} (h : Scan of p x true) : Scan of (p ++ [x]) x true := by
  rcases h with ⟨h1, h2⟩ | ⟨h1, h2, h3, h4⟩
  · cases h1
  · refine .inr ⟨rfl, by simp, h3, fun m hm hne => ?_⟩
    rcases List.mem_append.1 hm with hm | hm
    · exact h4 m hm hne
    · exact absurd (List.mem_singleton.1 hm) hne

theorem LookPost.inv {cs : List (List Int)} {given : List Int} {n : Nat} {of of' : List Int} {conf' b : Bool} {c : List Int} (hi : RInv cs given n of false) (hcs : c ∈ cs) (hc : isClause n c = true) (h : LookPost of false c b of' conf') :
    RInv cs given n of' conf' ∧ zeros of' ≤ zeros of ∧ (∀ l, isLit n l = true → val of l = 1 → val of' l = 1) ∧ (b = false → of' = of ∧ conf' = false ∧ Fine (tro of) c) ∧ (b = true → conf' = true ∨ zeros of' < zeros of) := by
  have neg : ∀ m ∈ c, val of m < 0 → Der cs given (-m) := fun m hm hv => by
    have hl := List.all_eq_true.1 hc m hm
    refine hi.sound (-m) (isLit_neg hl) ?_
    rw [val_neg _ (isLit_ne hl)]
    have := hi.wf.val m; omega
  rcases h with ⟨rfl, rfl, rfl, hf⟩ | ⟨rfl, rfl, rfl, hall⟩ | ⟨rfl, rfl, l, hl, h0, hother, rfl⟩
  · exact ⟨hi, Nat.le_refl _, fun _ _ h => h, fun _ => ⟨rfl, rfl, hf⟩, fun h => by cases h⟩
  · exact ⟨⟨hi.wf, hi.sound, fun _ => incons_all hcs fun m hm => neg m hm (hall m hm)⟩, Nat.le_refl _, fun _ _ h => h, fun h => (by cases h), fun _ => .inl rfl⟩
  · have hll := List.all_eq_true.1 hc l hl
    have hlt := zeros_put hi.wf hll h0
    refine ⟨hi.put hll (.unit_ hcs hl fun m hm hne => neg m hm (hother m hm hne)), by omega, fun m hm h1 => ?_, fun h => (by cases h), fun _ => .inr hlt⟩
    rw [val_put hi.wf hll m (isLit_ne hm)]
    by_cases e1 : m = l
    · rw [if_pos e1]
    · rw [if_neg e1, if_neg, h1]
      rintro rfl
      rw [val_neg _ (isLit_ne hll), h0] at h1; omega

theorem put_keeps {n : Nat} {of : List Int} (hw : Wf n of) {l : Int} (hl : isLit n l = true) (h0 : 0 ≤ val of l) {m : Int} (hm : isLit n m = true) (h : val of m = 1 ∨ m = l) : val (put of l) m = 1 := by
  rw [val_put hw hl m (isLit_ne hm)]
  by_cases e1 : m = l
  · rw [if_pos e1]
  · rw [if_neg e1, if_neg]
    · exact h.resolve_right e1
    · rintro rfl
      have := h.resolve_right e1
      rw [val_neg _ (isLit_ne hl)] at this; omega

def mu (of : List Int) (ch conf : Bool) : Nat := 3 * zeros of + (if ch then 1 else 0) + (if conf then 0 else 1)

/-- what the reference's search knows at its head -/
def Head (cs : List (List Int)) (given : List Int) (n : Nat) (of : List Int) (conf : Bool) : Prop := RInv cs given n of conf ∧ (conf = true ∨ ∀ l ∈ given, val of l = 1)
def Round (cs : List (List Int)) (given : List Int) (n : Nat) (of0 : List Int) (k : Nat) (of : List Int) (conf ch : Bool) : Prop :=
  Head cs given n of conf ∧ zeros of ≤ zeros of0 ∧ (ch = false → of = of0 ∧ conf = false ∧ ∀ c ∈ cs.take k, Fine (tro of) c) ∧ (ch = true → conf = true ∨ zeros of < zeros of0)

theorem Round.step {cs : List (List Int)} {given : List Int} {n : Nat} {of0 : List Int} {k : Nat} {of of' : List Int} {conf' ch b : Bool} {c : List Int} (h : Round cs given n of0 k of false ch) (hck : cs[k]? = some c) (hcs : cs.all (isClause n) = true) (hg : isClause n given = true)
    (hp : LookPost of false c b of' conf') : Round cs given n of0 (k + 1) of' conf' (b || ch) := by
  obtain ⟨⟨hi, hgv⟩, hz, hf, ht⟩ := h
  have hm := List.mem_of_getElem? hck
  obtain ⟨i1, i2, i3, i4, i5⟩ := hp.inv hi hm (List.all_eq_true.1 hcs c hm)
  refine ⟨⟨i1, ?_⟩, by omega, ?_, ?_⟩
  · rcases hgv with h | h
    · cases h
    · exact .inr fun l hl => i3 l (List.all_eq_true.1 hg l hl) (h l hl)
  · cases b
    · intro hch
      simp at hch
      obtain ⟨e1, e2, e3⟩ := hf hch
      obtain ⟨e4, e5, e6⟩ := i4 rfl
      refine ⟨e4.trans e1, e5, fun c' hc' => ?_⟩
      rw [List.take_add_one, hck] at hc'
      rcases List.mem_append.1 hc' with hc' | hc'
      · rw [e4]; exact e3 c' hc'
      · simp at hc'; rw [hc', e4]; exact e6
    · intro hch; simp at hch
  · intro hch
    cases b
    · simp at hch
      obtain ⟨e4, e5, _⟩ := i4 rfl
      rw [e4, e5]
      exact ht hch
    · rcases i5 rfl with h | h
      · exact .inl h
      · exact .inr (by omega)

def UnitsPost (cs : List (List Int)) (given : List Int) (n : Nat) (of : List Int) (conf : Bool) : Prop :=
  Wf n of ∧ ((conf = true ∧ Incons cs given) ∨ (conf = false ∧ ¬ Incons cs given ∧ ∀ l, isLit n l = true → (val of l = 1 ↔ Der cs given l)))

theorem Head.post {cs : List (List Int)} {given : List Int} {n : Nat} {of : List Int} {conf : Bool} (h : Head cs given n of conf) (hcs : cs.all (isClause n) = true) (hg : isClause n given = true) (hf : conf = true ∨ ∀ c ∈ cs, Fine (tro of) c) : UnitsPost cs given n of conf := by
  obtain ⟨hi, hgv⟩ := h
  refine ⟨hi.wf, ?_⟩
  cases conf
  · have h1 := hgv.resolve_left (by simp)
    have h2 := hf.resolve_left (by simp)
    exact .inr ⟨rfl, hi.fin hcs hg h1 h2⟩
  · exact .inl ⟨rfl, hi.con rfl⟩

theorem wf_start (n : Nat) : Wf n (List.replicate (n + 1) 0) := ⟨by simp, fun k => by simp only [List.getD, List.getElem?_replicate]; split <;> simp⟩
theorem val_start (n : Nat) (l : Int) : val (List.replicate (n + 1) 0) l = 0 := by
  unfold val
  simp only [List.getD, List.getElem?_replicate]
  split <;> split <;> simp
theorem inv_start (cs : List (List Int)) (given : List Int) (n : Nat) : RInv cs given n (List.replicate (n + 1) 0) false := ⟨wf_start n, fun l _ h => by rw [val_start] at h; omega, fun h => by cases h⟩
def GivenTo (cs : List (List Int)) (given : List Int) (n : Nat) (k : Nat) (of : List Int) (conf : Bool) : Prop := RInv cs given n of conf ∧ (conf = true ∨ ∀ l ∈ given.take k, val of l = 1)
theorem GivenTo.clash {cs : List (List Int)} {given : List Int} {n k : Nat} {of : List Int} {conf : Bool} (h : GivenTo cs given n k of conf) (hg : isClause n given = true) {l : Int} (hl : given[k]? = some l) (hv : val of l < 0) : GivenTo cs given n (k + 1) of true :=
  ⟨h.1.clash (List.all_eq_true.1 hg l (List.mem_of_getElem? hl)) (.given_ (List.mem_of_getElem? hl)) hv, .inl rfl⟩
theorem GivenTo.put {cs : List (List Int)} {given : List Int} {n k : Nat} {of : List Int} {conf : Bool} (h : GivenTo cs given n k of conf) (hg : isClause n given = true) {l : Int} (hl : given[k]? = some l) (hv : 0 ≤ val of l) : GivenTo cs given n (k + 1) (S.put of l) conf := by
  have hll := List.all_eq_true.1 hg l (List.mem_of_getElem? hl)
  refine ⟨h.1.put hll (.given_ (List.mem_of_getElem? hl)), ?_⟩
  rcases h.2 with h2 | h2
  · exact .inl h2
  · refine .inr fun m hm => ?_
    rw [List.take_add_one, hl] at hm
    rcases List.mem_append.1 hm with hm | hm
    · exact put_keeps h.1.wf hll hv (List.all_eq_true.1 hg m (List.mem_of_mem_take hm)) (.inl (h2 m hm))
    · simp at hm; exact put_keeps h.1.wf hll hv (by rw [hm]; exact hll) (.inr hm)
end S

theorem scan_cons {of : List Int} {xs : List Int} {k : Nat} {x : Int} (h : xs[k]? = some x) {lf : Int} {fd : Bool} (hs : S.Scan of (xs.take k ++ [x]) lf fd) : S.Scan of (xs.take (k + 1)) lf fd := by
  rw [take_succ_of h]; exact hs

def SomeLook (w : World) (B O n B0 : Nat) (of : List Int) (conf : Bool) (c : List Int) (e : Ending) (w' : World) : Prop :=
  ∃ b of' conf', e = .returned (.bool b) ∧ StAt w' B O n of' conf' ∧ Below B0 w w' ∧ S.LookPost of conf c b of' conf'

set_option maxHeartbeats 1000000 in
theorem look_any (B O n : Nat) (of : List Int) (conf : Bool) (A : Option Addr) (m c : Nat) (xs : List Int) (w : World) (h : StAt w B O n of conf) (hw : S.Wf n of) (hA : SlAt (IntR .i64) w A m xs) (hc : S.isClause n xs = true) (hn : n ≤ 4000) (B0 : Nat) (hB : B0 ≤ B) (hO : B0 ≤ O) :
    Calls Try.prog 61 #[.pointer (some ⟨B, 0, none⟩), .slice A m c] w (SomeLook w B O n B0 of conf xs) := by
  have hl := hA.le
  have HA := Lib.hid hA; clear hA
  have H := Lib.hid h; clear h
  have Hw := Lib.hid hw; clear hw
  have HC := Lib.hid hc; clear hc
  go_enter Try.func61, Try.ntmps61
  go_wp2
  go_loop [5, 6, 7] (fun a f i => ∃ k : Nat, k ≤ m ∧ i = .int .i64 k ∧ ∃ lf fd, a = .int .i64 lf ∧ f = .bool fd ∧ Hid (S.Scan of (xs.take k) lf fd)) (fun _ _ i => m - (intOf i).toNat)
  case atStart => exact ⟨0, Nat.zero_le _, rfl, 0, false, rfl, rfl, .inl ⟨rfl, fun m hm => by simp at hm⟩⟩
  case round =>
    obtain ⟨k, hk, rfl, lf, fd, rfl, rfl, HT⟩ := hrel
    by_cases hlt : k < m
    · obtain ⟨x, b, off, u, hx, rfl, _, h1, rfl⟩ := HA.out.at_ hlt
      have hlx := lit_at HC.out hx
      have con := value_any B O n of conf x w H.out Hw.out hlx hn
      have Hx := Lib.hid hx; clear hx
      have Hlx := Lib.hid hlx; clear hlx
      obtain ⟨v, hv⟩ : ∃ v, v = S.val of x := ⟨_, rfl⟩
      rw [← hv] at con
      have Hcon := Lib.hid con; clear con
      have Hv := Lib.hid hv; clear hv
      by_cases hpos : 0 < v
      · go_wp2_with fail
        refine Hcon.out.mono ?_
        rintro e w' ⟨rfl, rfl⟩
        go_wp2
        go_ret
        exact ⟨false, of, conf, rfl, H.out, Below.refl _ _, .inl ⟨rfl, rfl, rfl, S.fine_of_val Hw.out HC.out (.inl ⟨x, List.mem_of_getElem? Hx.out, by rw [← Hv.out]; exact hpos⟩)⟩⟩
      by_cases h0 : v = 0
      · subst h0
        cases fd
        · go_wp2_with fail
          refine Hcon.out.mono ?_
          rintro e w' ⟨rfl, rfl⟩
          go_wp2
          go_round
          case rel => exact ⟨k + 1, by omega, by go_num, x, true, rfl, rfl, scan_cons Hx.out (S.Scan.first HT.out Hv.out.symm)⟩
          case measure => simp [intOf]; omega
        · by_cases he : lf = x
          · subst he
            go_wp2_with fail
            refine Hcon.out.mono ?_
            rintro e w' ⟨rfl, rfl⟩
            go_wp2
            go_round
            case rel => exact ⟨k + 1, by omega, by go_num, lf, true, rfl, rfl, scan_cons Hx.out (S.Scan.again HT.out)⟩
            case measure => simp [intOf]; omega
          · have hb : (lf != x) = true := by simpa using he
            have He := Lib.hid he; clear he
            go_wp2_with fail
            refine Hcon.out.mono ?_
            rintro e w' ⟨rfl, rfl⟩
            go_wp2
            go_ret
            refine ⟨false, of, conf, rfl, H.out, Below.refl _ _, .inl ⟨rfl, rfl, rfl, S.fine_of_val Hw.out HC.out (.inr ?_)⟩⟩
            rcases HT.out with ⟨h1, _⟩ | ⟨_, h2, h3, _⟩
            · cases h1
            · exact ⟨lf, List.mem_of_mem_take h2, x, List.mem_of_getElem? Hx.out, He.out, h3, Hv.out.symm⟩
      · have hb : (v == 0) = false := by simpa using h0
        have hneg : v < 0 := by omega
        clear hpos h0
        go_wp2_with fail
        refine Hcon.out.mono ?_
        rintro e w' ⟨rfl, rfl⟩
        go_wp2
        go_round
        case rel => exact ⟨k + 1, by omega, by go_num, lf, fd, rfl, rfl, scan_cons Hx.out (S.Scan.neg HT.out (by rw [← Hv.out]; exact hneg))⟩
        case measure => simp [intOf]; omega
    · have hT := HT.out
      rw [take_all HA.out.len (by omega)] at hT
      have HT2 := Lib.hid hT; clear hT HT
      have h1 := H.out.c1
      have hf1 := H.out.f1
      have h0 := H.out.c0
      cases fd
      · go_wp2
        go_ret
        refine ⟨true, of, true, rfl, H.out.setConf true, (Below.refl _ _).setCell (by exact hB) _, .inr (.inl ⟨rfl, rfl, rfl, ?_⟩)⟩
        rcases HT2.out with ⟨_, h2⟩ | ⟨h2, _⟩
        · exact h2
        · cases h2
      · have hS : lf ∈ xs ∧ S.val of lf = 0 ∧ ∀ m ∈ xs, m ≠ lf → S.val of m < 0 := by
          rcases HT2.out with ⟨h2, _⟩ | ⟨_, h2⟩
          · cases h2
          · exact h2
        have con := take_any B O n of conf lf w H.out Hw.out (List.all_eq_true.1 HC.out lf hS.1) hn B0 hB hO
        have Hcon := Lib.hid con; clear con
        have HS := Lib.hid hS; clear hS
        go_wp2_with fail
        refine Hcon.out.mono ?_
        rintro e w' ⟨rfl, hbw, hpost⟩
        have HP := Lib.hid hpost; clear hpost
        go_wp2
        go_ret
        rcases HP.out with ⟨h2, _⟩ | ⟨_, hst⟩
        · have := HS.out.2.1; omega
        · exact ⟨true, S.put of lf, conf, rfl, hst, hbw, .inr (.inr ⟨rfl, rfl, lf, HS.out.1, HS.out.2.1, HS.out.2.2, rfl⟩)⟩
end Go.Proofs.Ytceelipcclfdmaa
