/- op.text, (*op.Op).read. -/
import Derived.Test.YtcaihinenfnekaaDoorOp7
import Derived.Test.YtcaihinenfnekaaDoorRd3
namespace Go.Proofs.YtcaihinenfnekaaDoor
open Go.RowKit

theorem optext_calls (w : World) (S : Nat → Prop) (p : Nat) (r : Rd) (h : RdAt w S p r) : Calls Tryd.prog 120 #[.pointer (some ⟨p, 0, none⟩)] w (RPost w S p (rText r 65535).1 (.string (mkS (rText r 65535).2))) := by
  go_enter Tryd.func120, Tryd.ntmps120
  go_wp2_with fail
  refine (textRd_calls w S p r 65535 h (by decide) (by decide)).mono ?_
  rintro e w1 ⟨rfl, h1, f1⟩
  go_wp2_with fail
  go_ret
  exact ⟨rfl, h1, f1⟩
theorem RdAt.inn {w : World} {S : Nat → Prop} {p : Nat} {r : Rd} (h : RdAt w S p r) : RdAt w (fun k => S k ∧ k < w.heap.size) p r := by
  obtain ⟨A, n, c, T, h⟩ := h
  refine ⟨A, n, c, T, h.len, h.heap, h.row, h.cap, h.max, h.nil, ⟨h.inS, (Array.getElem?_eq_some_iff.1 h.heap).1⟩, fun h0 a e => ?_, h.err⟩
  obtain ⟨h1, h2⟩ := h.rowS h0 a e
  subst e
  exact ⟨⟨h1, h.row.lt (by rw [bcells_length, h.len.out]; exact h0)⟩, h2⟩
/-- One of a sign's parts, as it is read. -/
def rdPart (o : OpV) (r : Rd) (c : UInt8) : OpV × Rd :=
  if c = 97 then ({o with a := mkS (rText r 65535).2}, (rText r 65535).1) else if c = 98 then ({o with b := mkS (rText r 65535).2}, (rText r 65535).1)
  else if c = 110 then ({o with n := (rNum r 1).2}, (rNum r 1).1) else if c = 114 then ({o with r := (rNum r 1).2}, (rNum r 1).1) else (o, r)
def rdSign (s : OpV × Rd) (c : UInt8) : OpV × Rd := ((rdPart s.1 s.2 c).1, if (rdPart s.1 s.2 c).2.e = 0 ∧ rightV (rdPart s.1 s.2 c).1 c = false then rFail (rdPart s.1 s.2 c).2 4 else (rdPart s.1 s.2 c).2)
def orB (S : Nat → Prop) (p : Nat) : Nat → Prop := fun k => S k ∨ k = p
def SignPost (w : World) (S : Nat → Prop) (po p : Nat) (s : OpV × Rd) (e : Ending) (w' : World) : Prop :=
  e = .returned (.tuple #[]) ∧ BlkAt w' po 38 s.1.C ∧ RdAt w' S p s.2 ∧ Fr (orB S po) w w'
theorem rdSign_keep {o o' : OpV} {r r' : Rd} {c : UInt8} (h : rdPart o r c = (o', r')) (hk : r'.e ≠ 0 ∨ rightV o' c = true) : rdSign (o, r) c = (o', r') := by
  unfold rdSign; rw [h]
  rw [if_neg]
  rintro ⟨h1, h2⟩
  rcases hk with hk | hk
  · exact hk h1
  · simp only [] at h2; rw [hk] at h2; cases h2
theorem rdSign_fail {o o' : OpV} {r r' : Rd} {c : UInt8} (h : rdPart o r c = (o', r')) (h1 : r'.e = 0) (h2 : rightV o' c = false) : rdSign (o, r) c = (o', rFail r' 4) := by
  unfold rdSign; rw [h]
  rw [if_pos ⟨h1, h2⟩]

set_option maxHeartbeats 1600000 in
theorem opread97_calls (w : World) (S : Nat → Prop) (po p : Nat) (o : OpV) (r : Rd) (hb : BlkAt w po 38 o.C) (h : RdAt w S p r) (hS : ¬ S po) :
    Calls Tryd.prog 86 #[.pointer (some ⟨po, 0, none⟩), .pointer (some ⟨p, 0, none⟩), .int .u8 97] w (SignPost w S po p (rdSign (o, r) 97)) := by
  obtain ⟨k, a, b, n, q⟩ := o
  have HP : Hid (rdPart ⟨k, a, b, n, q⟩ r 97 = (⟨k, mkS (rText r 65535).2, b, n, q⟩, (rText r 65535).1)) := rfl
  have hcl := optext_calls w S p r h
  generalize (rText r 65535) = rr at *
  obtain ⟨r1, x⟩ := rr
  simp only [] at *
  have xf : w.frozen? ⟨po, 1, none⟩ = false := hb.free _
  have x0 := hb.cell (k := 1) (v := .string a) rfl
  go_enter Tryd.func86, Tryd.ntmps86
  go_wp2_with fail
  refine hcl.mono ?_
  rintro e w1 ⟨rfl, h1, f1⟩
  have hb1 := hb.fr f1 hS
  have yf : w1.frozen? ⟨po, 1, none⟩ = false := hb1.free _
  have y0 := hb1.cell (k := 1) (v := .string a) rfl
  have fs := fr_set1 w1 po 1 (.string (mkS x))
  have hb2 : BlkAt (w1.setCell ⟨po, 1, none⟩ (.string (mkS x))) po 38 (⟨k, mkS x, b, n, q⟩ : OpV).C := by simpa [OpV.C] using hb1.set 1 (.string (mkS x))
  have h2 := h1.fr fs (fun j hj hs e => hS (by unfold eqB at e; exact e ▸ hs))
  have F : Fr (orB S po) w (w1.setCell ⟨po, 1, none⟩ (.string (mkS x))) := (f1.mono fun _ _ h => Or.inl h).then' (fs.mono fun _ _ h => Or.inr h)
  clear f1 h1 hb1 fs hcl hb h x0 xf
  go_wp2_with fail
  generalize (w1.setCell ⟨po, 1, none⟩ (.string (mkS x))) = w2 at *
  have hE := errRd_calls w2 S p r1 h2
  by_cases he : r1.e = 0
  · rw [he] at hE
    refine hE.mono ?_
    rintro e w3 ⟨rfl, rfl⟩
    have z0 := hb2.cell (k := 0) (v := .int .u8 k) rfl
    have z1 := hb2.cell (k := 1) (v := .string (mkS x)) rfl
    have z2 := hb2.cell (k := 2) (v := .string b) rfl
    have z3 := hb2.cell (k := 3) (v := .int .u8 n) rfl
    have z4 := hb2.cell (k := 4) (v := .int .u8 q) rfl
    have hr := right_calls w2 ⟨k, mkS x, b, n, q⟩ 97
    cases hv : rightV ⟨k, mkS x, b, n, q⟩ 97
    · rw [hv] at hr
      have HE := hid (rdSign_fail HP.out he hv)
      clear he hE hv
      go_wp2_with fail
      refine hr.mono ?_
      rintro e w4 ⟨rfl, f4⟩
      have hb4 := hb2.fr f4 id
      have h4 := h2.fr f4 (fun _ _ _ => id)
      have F4 := F.then' (f4.mono (T := orB S po) fun _ _ h => h.elim)
      clear hr z0 z1 z2 z3 z4 hb2 h2 F f4
      go_wp2_with fail
      refine (fail_calls w4 S p r1 4 h4).mono ?_
      rintro e w5 ⟨rfl, h5, f5⟩
      have hb5 := hb4.fr f5 hS
      have F5 := F4.then' (f5.mono (T := orB S po) fun _ _ h => Or.inl h)
      clear hb4 h4 F4 f5
      go_wp2_with fail
      go_end0
      rw [HE.out]
      exact ⟨rfl, hb5, h5, F5⟩
    · rw [hv] at hr
      have HE := hid (rdSign_keep HP.out (Or.inr hv))
      clear he hE hv
      go_wp2_with fail
      refine hr.mono ?_
      rintro e w4 ⟨rfl, f4⟩
      have hb4 := hb2.fr f4 id
      have h4 := h2.fr f4 (fun _ _ _ => id)
      have F4 := F.then' (f4.mono (T := orB S po) fun _ _ h => h.elim)
      clear hr z0 z1 z2 z3 z4 hb2 h2 F f4
      go_wp2_with fail
      go_end0
      rw [HE.out]
      exact ⟨rfl, hb4, h4, F4⟩
  · have t1 : ((r1.e : Int) == 0) = false := by rw [beq_eq_false_iff_ne]; omega
    have HE := hid (rdSign_keep HP.out (Or.inl he))
    generalize hre : (r1.e : Int) = re at *
    have HRE := hid hre
    clear he hre
    refine hE.mono ?_
    rintro e w3 ⟨rfl, rfl⟩
    clear hE
    go_wp2_with fail
    go_end0
    rw [HE.out]
    exact ⟨rfl, hb2, h2, F⟩

set_option maxHeartbeats 1600000 in
theorem opread98_calls (w : World) (S : Nat → Prop) (po p : Nat) (o : OpV) (r : Rd) (hb : BlkAt w po 38 o.C) (h : RdAt w S p r) (hS : ¬ S po) :
    Calls Tryd.prog 86 #[.pointer (some ⟨po, 0, none⟩), .pointer (some ⟨p, 0, none⟩), .int .u8 98] w (SignPost w S po p (rdSign (o, r) 98)) := by
  obtain ⟨k, a, b, n, q⟩ := o
  have HP : Hid (rdPart ⟨k, a, b, n, q⟩ r 98 = (⟨k, a, mkS (rText r 65535).2, n, q⟩, (rText r 65535).1)) := rfl
  have hcl := optext_calls w S p r h
  generalize (rText r 65535) = rr at *
  obtain ⟨r1, x⟩ := rr
  simp only [] at *
  have xf : w.frozen? ⟨po, 2, none⟩ = false := hb.free _
  have x0 := hb.cell (k := 2) (v := .string b) rfl
  go_enter Tryd.func86, Tryd.ntmps86
  go_wp2_with fail
  refine hcl.mono ?_
  rintro e w1 ⟨rfl, h1, f1⟩
  have hb1 := hb.fr f1 hS
  have yf : w1.frozen? ⟨po, 2, none⟩ = false := hb1.free _
  have y0 := hb1.cell (k := 2) (v := .string b) rfl
  have fs := fr_set1 w1 po 2 (.string (mkS x))
  have hb2 : BlkAt (w1.setCell ⟨po, 2, none⟩ (.string (mkS x))) po 38 (⟨k, a, mkS x, n, q⟩ : OpV).C := by simpa [OpV.C] using hb1.set 2 (.string (mkS x))
  have h2 := h1.fr fs (fun j hj hs e => hS (by unfold eqB at e; exact e ▸ hs))
  have F : Fr (orB S po) w (w1.setCell ⟨po, 2, none⟩ (.string (mkS x))) := (f1.mono fun _ _ h => Or.inl h).then' (fs.mono fun _ _ h => Or.inr h)
  clear f1 h1 hb1 fs hcl hb h x0 xf
  go_wp2_with fail
  generalize (w1.setCell ⟨po, 2, none⟩ (.string (mkS x))) = w2 at *
  have hE := errRd_calls w2 S p r1 h2
  by_cases he : r1.e = 0
  · rw [he] at hE
    refine hE.mono ?_
    rintro e w3 ⟨rfl, rfl⟩
    have z0 := hb2.cell (k := 0) (v := .int .u8 k) rfl
    have z1 := hb2.cell (k := 1) (v := .string a) rfl
    have z2 := hb2.cell (k := 2) (v := .string (mkS x)) rfl
    have z3 := hb2.cell (k := 3) (v := .int .u8 n) rfl
    have z4 := hb2.cell (k := 4) (v := .int .u8 q) rfl
    have hr := right_calls w2 ⟨k, a, mkS x, n, q⟩ 98
    cases hv : rightV ⟨k, a, mkS x, n, q⟩ 98
    · rw [hv] at hr
      have HE := hid (rdSign_fail HP.out he hv)
      clear he hE hv
      go_wp2_with fail
      refine hr.mono ?_
      rintro e w4 ⟨rfl, f4⟩
      have hb4 := hb2.fr f4 id
      have h4 := h2.fr f4 (fun _ _ _ => id)
      have F4 := F.then' (f4.mono (T := orB S po) fun _ _ h => h.elim)
      clear hr z0 z1 z2 z3 z4 hb2 h2 F f4
      go_wp2_with fail
      refine (fail_calls w4 S p r1 4 h4).mono ?_
      rintro e w5 ⟨rfl, h5, f5⟩
      have hb5 := hb4.fr f5 hS
      have F5 := F4.then' (f5.mono (T := orB S po) fun _ _ h => Or.inl h)
      clear hb4 h4 F4 f5
      go_wp2_with fail
      go_end0
      rw [HE.out]
      exact ⟨rfl, hb5, h5, F5⟩
    · rw [hv] at hr
      have HE := hid (rdSign_keep HP.out (Or.inr hv))
      clear he hE hv
      go_wp2_with fail
      refine hr.mono ?_
      rintro e w4 ⟨rfl, f4⟩
      have hb4 := hb2.fr f4 id
      have h4 := h2.fr f4 (fun _ _ _ => id)
      have F4 := F.then' (f4.mono (T := orB S po) fun _ _ h => h.elim)
      clear hr z0 z1 z2 z3 z4 hb2 h2 F f4
      go_wp2_with fail
      go_end0
      rw [HE.out]
      exact ⟨rfl, hb4, h4, F4⟩
  · have t1 : ((r1.e : Int) == 0) = false := by rw [beq_eq_false_iff_ne]; omega
    have HE := hid (rdSign_keep HP.out (Or.inl he))
    generalize hre : (r1.e : Int) = re at *
    have HRE := hid hre
    clear he hre
    refine hE.mono ?_
    rintro e w3 ⟨rfl, rfl⟩
    clear hE
    go_wp2_with fail
    go_end0
    rw [HE.out]
    exact ⟨rfl, hb2, h2, F⟩

set_option maxHeartbeats 1600000 in
theorem opread110_calls (w : World) (S : Nat → Prop) (po p : Nat) (o : OpV) (r : Rd) (hb : BlkAt w po 38 o.C) (h : RdAt w S p r) (hS : ¬ S po) :
    Calls Tryd.prog 86 #[.pointer (some ⟨po, 0, none⟩), .pointer (some ⟨p, 0, none⟩), .int .u8 110] w (SignPost w S po p (rdSign (o, r) 110)) := by
  obtain ⟨k, a, b, n, q⟩ := o
  have HP : Hid (rdPart ⟨k, a, b, n, q⟩ r 110 = (⟨k, a, b, (rNum r 1).2, q⟩, (rNum r 1).1)) := rfl
  have hcl := byteRd_calls w S p r h
  generalize (rNum r 1) = rr at *
  obtain ⟨r1, x⟩ := rr
  simp only [] at *
  have xf : w.frozen? ⟨po, 3, none⟩ = false := hb.free _
  have x0 := hb.cell (k := 3) (v := .int .u8 n) rfl
  go_enter Tryd.func86, Tryd.ntmps86
  go_wp2_with fail
  refine hcl.mono ?_
  rintro e w1 ⟨rfl, h1, f1⟩
  have hb1 := hb.fr f1 hS
  have yf : w1.frozen? ⟨po, 3, none⟩ = false := hb1.free _
  have y0 := hb1.cell (k := 3) (v := .int .u8 n) rfl
  have fs := fr_set1 w1 po 3 (.int .u8 (x : Nat))
  have hb2 : BlkAt (w1.setCell ⟨po, 3, none⟩ (.int .u8 (x : Nat))) po 38 (⟨k, a, b, x, q⟩ : OpV).C := by simpa [OpV.C] using hb1.set 3 (.int .u8 (x : Nat))
  have h2 := h1.fr fs (fun j hj hs e => hS (by unfold eqB at e; exact e ▸ hs))
  have F : Fr (orB S po) w (w1.setCell ⟨po, 3, none⟩ (.int .u8 (x : Nat))) := (f1.mono fun _ _ h => Or.inl h).then' (fs.mono fun _ _ h => Or.inr h)
  clear f1 h1 hb1 fs hcl hb h x0 xf
  go_wp2_with fail
  generalize (w1.setCell ⟨po, 3, none⟩ (.int .u8 (x : Nat))) = w2 at *
  have hE := errRd_calls w2 S p r1 h2
  by_cases he : r1.e = 0
  · rw [he] at hE
    refine hE.mono ?_
    rintro e w3 ⟨rfl, rfl⟩
    have z0 := hb2.cell (k := 0) (v := .int .u8 k) rfl
    have z1 := hb2.cell (k := 1) (v := .string a) rfl
    have z2 := hb2.cell (k := 2) (v := .string b) rfl
    have z3 := hb2.cell (k := 3) (v := .int .u8 x) rfl
    have z4 := hb2.cell (k := 4) (v := .int .u8 q) rfl
    have hr := right_calls w2 ⟨k, a, b, x, q⟩ 110
    cases hv : rightV ⟨k, a, b, x, q⟩ 110
    · rw [hv] at hr
      have HE := hid (rdSign_fail HP.out he hv)
      clear he hE hv
      go_wp2_with fail
      refine hr.mono ?_
      rintro e w4 ⟨rfl, f4⟩
      have hb4 := hb2.fr f4 id
      have h4 := h2.fr f4 (fun _ _ _ => id)
      have F4 := F.then' (f4.mono (T := orB S po) fun _ _ h => h.elim)
      clear hr z0 z1 z2 z3 z4 hb2 h2 F f4
      go_wp2_with fail
      refine (fail_calls w4 S p r1 4 h4).mono ?_
      rintro e w5 ⟨rfl, h5, f5⟩
      have hb5 := hb4.fr f5 hS
      have F5 := F4.then' (f5.mono (T := orB S po) fun _ _ h => Or.inl h)
      clear hb4 h4 F4 f5
      go_wp2_with fail
      go_end0
      rw [HE.out]
      exact ⟨rfl, hb5, h5, F5⟩
    · rw [hv] at hr
      have HE := hid (rdSign_keep HP.out (Or.inr hv))
      clear he hE hv
      go_wp2_with fail
      refine hr.mono ?_
      rintro e w4 ⟨rfl, f4⟩
      have hb4 := hb2.fr f4 id
      have h4 := h2.fr f4 (fun _ _ _ => id)
      have F4 := F.then' (f4.mono (T := orB S po) fun _ _ h => h.elim)
      clear hr z0 z1 z2 z3 z4 hb2 h2 F f4
      go_wp2_with fail
      go_end0
      rw [HE.out]
      exact ⟨rfl, hb4, h4, F4⟩
  · have t1 : ((r1.e : Int) == 0) = false := by rw [beq_eq_false_iff_ne]; omega
    have HE := hid (rdSign_keep HP.out (Or.inl he))
    generalize hre : (r1.e : Int) = re at *
    have HRE := hid hre
    clear he hre
    refine hE.mono ?_
    rintro e w3 ⟨rfl, rfl⟩
    clear hE
    go_wp2_with fail
    go_end0
    rw [HE.out]
    exact ⟨rfl, hb2, h2, F⟩

set_option maxHeartbeats 1600000 in
theorem opread114_calls (w : World) (S : Nat → Prop) (po p : Nat) (o : OpV) (r : Rd) (hb : BlkAt w po 38 o.C) (h : RdAt w S p r) (hS : ¬ S po) :
    Calls Tryd.prog 86 #[.pointer (some ⟨po, 0, none⟩), .pointer (some ⟨p, 0, none⟩), .int .u8 114] w (SignPost w S po p (rdSign (o, r) 114)) := by
  obtain ⟨k, a, b, n, q⟩ := o
  have HP : Hid (rdPart ⟨k, a, b, n, q⟩ r 114 = (⟨k, a, b, n, (rNum r 1).2⟩, (rNum r 1).1)) := rfl
  have hcl := byteRd_calls w S p r h
  generalize (rNum r 1) = rr at *
  obtain ⟨r1, x⟩ := rr
  simp only [] at *
  have xf : w.frozen? ⟨po, 4, none⟩ = false := hb.free _
  have x0 := hb.cell (k := 4) (v := .int .u8 q) rfl
  go_enter Tryd.func86, Tryd.ntmps86
  go_wp2_with fail
  refine hcl.mono ?_
  rintro e w1 ⟨rfl, h1, f1⟩
  have hb1 := hb.fr f1 hS
  have yf : w1.frozen? ⟨po, 4, none⟩ = false := hb1.free _
  have y0 := hb1.cell (k := 4) (v := .int .u8 q) rfl
  have fs := fr_set1 w1 po 4 (.int .u8 (x : Nat))
  have hb2 : BlkAt (w1.setCell ⟨po, 4, none⟩ (.int .u8 (x : Nat))) po 38 (⟨k, a, b, n, x⟩ : OpV).C := by simpa [OpV.C] using hb1.set 4 (.int .u8 (x : Nat))
  have h2 := h1.fr fs (fun j hj hs e => hS (by unfold eqB at e; exact e ▸ hs))
  have F : Fr (orB S po) w (w1.setCell ⟨po, 4, none⟩ (.int .u8 (x : Nat))) := (f1.mono fun _ _ h => Or.inl h).then' (fs.mono fun _ _ h => Or.inr h)
  clear f1 h1 hb1 fs hcl hb h x0 xf
  go_wp2_with fail
  generalize (w1.setCell ⟨po, 4, none⟩ (.int .u8 (x : Nat))) = w2 at *
  have hE := errRd_calls w2 S p r1 h2
  by_cases he : r1.e = 0
  · rw [he] at hE
    refine hE.mono ?_
    rintro e w3 ⟨rfl, rfl⟩
    have z0 := hb2.cell (k := 0) (v := .int .u8 k) rfl
    have z1 := hb2.cell (k := 1) (v := .string a) rfl
    have z2 := hb2.cell (k := 2) (v := .string b) rfl
    have z3 := hb2.cell (k := 3) (v := .int .u8 n) rfl
    have z4 := hb2.cell (k := 4) (v := .int .u8 x) rfl
    have hr := right_calls w2 ⟨k, a, b, n, x⟩ 114
    cases hv : rightV ⟨k, a, b, n, x⟩ 114
    · rw [hv] at hr
      have HE := hid (rdSign_fail HP.out he hv)
      clear he hE hv
      go_wp2_with fail
      refine hr.mono ?_
      rintro e w4 ⟨rfl, f4⟩
      have hb4 := hb2.fr f4 id
      have h4 := h2.fr f4 (fun _ _ _ => id)
      have F4 := F.then' (f4.mono (T := orB S po) fun _ _ h => h.elim)
      clear hr z0 z1 z2 z3 z4 hb2 h2 F f4
      go_wp2_with fail
      refine (fail_calls w4 S p r1 4 h4).mono ?_
      rintro e w5 ⟨rfl, h5, f5⟩
      have hb5 := hb4.fr f5 hS
      have F5 := F4.then' (f5.mono (T := orB S po) fun _ _ h => Or.inl h)
      clear hb4 h4 F4 f5
      go_wp2_with fail
      go_end0
      rw [HE.out]
      exact ⟨rfl, hb5, h5, F5⟩
    · rw [hv] at hr
      have HE := hid (rdSign_keep HP.out (Or.inr hv))
      clear he hE hv
      go_wp2_with fail
      refine hr.mono ?_
      rintro e w4 ⟨rfl, f4⟩
      have hb4 := hb2.fr f4 id
      have h4 := h2.fr f4 (fun _ _ _ => id)
      have F4 := F.then' (f4.mono (T := orB S po) fun _ _ h => h.elim)
      clear hr z0 z1 z2 z3 z4 hb2 h2 F f4
      go_wp2_with fail
      go_end0
      rw [HE.out]
      exact ⟨rfl, hb4, h4, F4⟩
  · have t1 : ((r1.e : Int) == 0) = false := by rw [beq_eq_false_iff_ne]; omega
    have HE := hid (rdSign_keep HP.out (Or.inl he))
    generalize hre : (r1.e : Int) = re at *
    have HRE := hid hre
    clear he hre
    refine hE.mono ?_
    rintro e w3 ⟨rfl, rfl⟩
    clear hE
    go_wp2_with fail
    go_end0
    rw [HE.out]
    exact ⟨rfl, hb2, h2, F⟩
theorem opread_calls (w : World) (S : Nat → Prop) (po p : Nat) (o : OpV) (r : Rd) (c : UInt8) (hb : BlkAt w po 38 o.C) (h : RdAt w S p r) (hS : ¬ S po) (hc : c = 97 ∨ c = 98 ∨ c = 110 ∨ c = 114) :
    Calls Tryd.prog 86 #[.pointer (some ⟨po, 0, none⟩), .pointer (some ⟨p, 0, none⟩), .int .u8 c.toNat] w (SignPost w S po p (rdSign (o, r) c)) := by
  rcases hc with rfl | rfl | rfl | rfl
  · exact opread97_calls w S po p o r hb h hS
  · exact opread98_calls w S po p o r hb h hS
  · exact opread110_calls w S po p o r hb h hS
  · exact opread114_calls w S po p o r hb h hS
end Go.Proofs.YtcaihinenfnekaaDoor
