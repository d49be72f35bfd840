-- Functions of the program and of the document as plain Lean, each with the proof that the code comes to it. Written by a program of this session (wip/tools/myprint.py, pack.py) over the kit's printer; Lean checks it.
import Derived.Test.YtnmbndkojpjkmaaZPackBackPrt0
import Derived.Test.YtnmbndkojpjkmaaZPackBackM1
import Derived.Test.YtnmbndkojpjkmaaZPackBackM2
import Derived.Laws.CopyOwn
import Derived.Test.YtnmbndkojpjkmaaZPackBackSh2
import Derived.Test.YtnmbndkojpjkmaaZPackBackSh
namespace Go.Proofs.Ytnmbndkojpjkmaa.Prt
open Go.RowKit Go.Proofs.YtnmbndkojpjkmaaW.PrintWords Go.Proofs.YtnmbndkojpjkmaaW.PrintLast Go.Proofs.YtnmbndkojpjkmaaW.PrintMore
attribute [local go_sem] max2_int min2_int max_two min_two max_three min_three max_four min_four   -- for this text's walks alone
set_option linter.unusedVariables false
set_option linter.unusedSimpArgs false


/-- A row of scalars, as one block of cells. -/
theorem cpack_Write.intRow {k : IntKind} {e base : Nat} {ok : Nat→Prop} {w : World} {v : Value} {xs : List Int} (h : (Kd.int k).R e w base ok v xs) :
  (v=.slice none 0 0∧xs = [])∨∃ g cap cur,v=.slice (some ⟨g,0,none⟩) xs.length cap∧ok g∧base≤g∧w.heap[g]? = some (.cells cur e (0,0))∧xs.length≤cap∧cap≤maxLen∧cur.size=cap∧cur.toList.take xs.length=xs.map (Value.int k):=by
 obtain ⟨h0,inner,⟨h1,h2⟩,hr⟩:=h
 have hsz : (Kd.int k).sz=1:=rfl
 have hin : inner=xs.map (Value.int k):=by
  refine List.ext_getElem? fun j => ?_
  have hl : inner.length=xs.length:=by rw [h1,hsz,Nat.mul_one]
  rcases Nat.lt_or_ge j xs.length with hj|hj
  ·
   have:=hr.2 j _ (List.getElem?_eq_getElem hj)
   rw [hsz,Nat.mul_one] at this
   have h3 : (inner.drop j).take 1 = [Value.int k xs[j]]:=this
   have h4:=congrArg (fun l=>l[0]?) h3
   simp only [List.getElem?_take,List.getElem?_drop] at h4
   simp at h4
   simp [h4,hj]
  rw [List.getElem?_eq_none (by omega),List.getElem?_eq_none (by simp;omega)]
 rcases h2 with ⟨rfl,hn⟩ | ⟨g,cap,cur,rfl,hb,hh,hnc,hcm,hcs,ht⟩
 ·
  exact .inl ⟨rfl,List.eq_nil_of_length_eq_zero hn⟩
 rw [hsz,Nat.mul_one] at hcs ht
 exact .inr ⟨g,cap,cur,rfl,h0 g rfl,hb,hh,hnc,hcm,hcs,by rw [ht,hin]⟩
theorem cpack_Write.rowInt {k : IntKind} {e base : Nat} {ok : Nat→Prop} {w : World} {xs : List Int} {g cap : Nat} {cur : Array Value} (hg : ok g) (hb : base≤g) (hh : w.heap[g]? = some (.cells cur e (0,0))) (hn : xs.length≤cap) (hc : cap≤maxLen) (hs : cur.size=cap) (ht : cur.toList.take xs.length=xs.map (Value.int k)) :
  (Kd.int k).R e w base ok (.slice (some ⟨g,0,none⟩) xs.length cap) xs:=by
 have hsz : (Kd.int k).sz=1:=rfl
 refine ⟨fun q hq => ?_,xs.map (Value.int k),⟨by simp [hsz], .inr ⟨g,cap,cur,rfl,hb,hh,hn,hc,by rw [hsz,Nat.mul_one,hs],by rw [hsz,Nat.mul_one,ht]⟩⟩,by simp [hsz],fun j p hp => ?_⟩
 ·
  simp only [Value.ownBlock,Option.some.injEq] at hq;exact hq ▸ hg
 have : ((xs.map (Value.int k)).drop (j * 1)).take 1 = [Value.int k p]:=by
  rw [Nat.mul_one]
  obtain ⟨hj,hpj⟩:=List.getElem?_eq_some_iff.1 hp
  refine List.ext_getElem? fun i => ?_
  rcases i with _|i
  ·
   simp [List.getElem?_take,hp]
  simp [List.getElem?_take]
 exact this

theorem cpack_Write.copyRow {P : Program} {ops : Array Oper} {rest : List Oper} {o : Oper} {a : Act} {Q : Exit→Act→World→Prop} {k : IntKind} {w0 W : World} (base : Nat) (hgd : o.guard=none) (d s : Operand) (t e : TypeId)
  (ho : o.op=.call { callee:=.builtin .copy,args := #[d,s],argTypes := #[t,t] }) (ht : P.underlying t=some (.slice e)) {z : Value} {bytes : Nat} (hinfo : (P.info? e).map (fun i=>(i.zero,i.size,i.bytes))=some (some z,1,bytes))
  (v : Value) (xs ys : List Int) (A : Option Addr) (m c : Nat) (ok : Nat→Prop) (hd : a.eval d=v) (hs : a.eval s=.slice A m c)
  (HO : (Kd.int k).R e W base ok v xs) (HR : (Kd.int k).C W A m ys) (HB : Below base w0 W)
  (h : ∀ w1,(Kd.int k).R e w1 base ok v (ys.take xs.length ++ xs.drop ys.length)→Below base w0 w1→wpList P ops Q rest (a.put o.dst (goInt ((min m xs.length : Nat) : Int))) w1) :
  wpList P ops Q (o :: rest) a W:=by
 have hm : ys.length=m:=HR.1
 have hsz : (P.info? e).map (·.size)=some 1:=by
  obtain ⟨i0,hi,hz⟩:=Option.map_eq_some_iff.1 hinfo
  simp only [Prod.mk.injEq] at hz
  rw [hi,Option.map_some,hz.2.1]
 rcases cpack_Write.intRow HO with ⟨rfl,rfl⟩ | ⟨g,cap,cur,rfl,hok,hbg,hh,hnc,hcm,hcs,htk⟩
 ·
  refine wpList_copy_nothing hgd d s t t ho e ht hsz none A 0 0 m c hd hs (by simp) ?_
  have:=h W (by simpa using HO) HB
  simpa using this
 have hl : (ys.take xs.length).length=min m xs.length:=by simp [List.length_take,hm,Nat.min_comm]
 refine wpList_copy_splice hgd d s t t ho e ht hsz _ A xs.length cap m c hd hs g 0 cur.toList e (by simpa using hh) ((ys.take xs.length).map (Value.int k)) (by rw [List.length_map,hl]) (fun hp=>⟨rfl, ?_⟩) (by rw [List.length_map,hl];have : cur.toList.length=cap:=(by simpa using hcs);omega) (fun v hv=>by obtain ⟨x,_,rfl⟩:=List.mem_map.1 hv;rfl) base w0 HB hbg (fun w1 hg1 hb1 => ?_)
 ·
  rw [List.length_map,hl] at hp
  obtain ⟨ad,rfl,hc⟩:=HR.2.2 (by omega)
  refine ⟨ad,rfl,fun j v hj => ?_⟩
  rw [List.getElem?_map,List.getElem?_take] at hj
  split at hj
  ·
   rcases hy : ys[j]? with _|y
   ·
    rw [hy] at hj;simp at hj
   rw [hy] at hj
   simp only [Option.map_some,Option.some.injEq] at hj
   subst hj
   obtain ⟨cs,hcl,hcr,hcc⟩:=hc j y hy
   have hcr : cs = [Value.int k y]:=hcr
   subst hcr
   have:=hcc 0 _ rfl
   have h1 : (Kd.int k).sz=1:=rfl
   rwa [h1,Nat.mul_one,Nat.add_zero] at this
  simp at hj
 have hlen : (ys.take xs.length ++ xs.drop ys.length).length=xs.length:=by
  rw [List.length_append,List.length_drop,List.length_take];omega
 have hR : (Kd.int k).R e w1 base ok (.slice (some ⟨g,0,none⟩) (ys.take xs.length ++ xs.drop ys.length).length cap) (ys.take xs.length ++ xs.drop ys.length):=by
  refine cpack_Write.rowInt hok hbg hg1 (by omega) hcm ?_ ?_
  ·
   have:=length_splice cur.toList 0 ((ys.take xs.length).map (Value.int k)) (by rw [List.length_map,hl];have : cur.toList.length=cap:=(by simpa using hcs);omega)
   simp only [List.size_toArray,this]
   simpa using hcs
  rw [hlen]
  simp only [splice,List.take_zero,List.nil_append,List.length_map,Nat.zero_add,List.map_append]
  have hcur : cur.toList=xs.map (Value.int k) ++ cur.toList.drop xs.length:=by rw [← htk,List.take_append_drop]
  have h2 : (cur.toList.drop (ys.take xs.length).length)=(xs.drop (ys.take xs.length).length).map (Value.int k) ++ cur.toList.drop xs.length:=by
   conv=>lhs;rw [hcur]
   rw [List.drop_append_of_le_length (by rw [List.length_map,hl];omega),List.map_drop]
  rw [h2, ← List.append_assoc,List.take_append_of_le_length (by rw [List.length_append,List.length_map,List.length_map,List.length_drop];omega),List.take_of_length_le (by rw [List.length_append,List.length_map,List.length_map,List.length_drop];omega)]
  congr 2
  rcases Nat.le_total ys.length xs.length with h3|h3
  ·
   rw [List.length_take,Nat.min_eq_right h3]
  rw [List.length_take,Nat.min_eq_left h3,List.drop_eq_nil_of_le (Nat.le_refl _),List.drop_eq_nil_of_le h3]
 rw [hlen] at hR
 have:=h w1 hR hb1
 rwa [← hl, ← List.length_map (f:=Value.int k)] at this
mutual
def cpack_Write.j0 : Nat→Int→Int→List (List Int)→Bool→Bool→List (List Int)→List (List (List Int))→Option (List Int × Int)
 | 0,_,_,_,_,_,_,_=>none
 | k+1,x0,x1,x3,x41,aQ,aH,aT=>if x41=true then (some (([] : List Int),1)) else (if aQ=true then (cpack_Write.j1 k x0 x1 x3 1 aQ aH aT) else (cpack_Write.j1 k x0 x1 x3 0 aQ aH aT))
def cpack_Write.j1 : Nat→Int→Int→List (List Int)→Int→Bool→List (List Int)→List (List (List Int))→Option (List Int × Int)
 | 0,_,_,_,_,_,_,_=>none
 | k+1,x0,x1,x3,x10,aQ,aH,aT=>(coder_New.f).bind fun bM=>((coder_Put.f k bM.1 bM.2.1 bM.2.2 x10 (wrap64 (x10+1)) 2).bind fun bN=>(cpack_Write.l0 k x0 x1 x3 aH (aH.length : Int) 0 aQ aH aT bN.1 bN.2.1 bN.2.2.1))
def cpack_Write.l0 : Nat→Int→Int→List (List Int)→List (List Int)→Int→Int→Bool→List (List Int)→List (List (List Int))→Int→Int→List Int→Option (List Int × Int)
 | 0,_,_,_,_,_,_,_,_,_,_,_,_=>none
 | k+1,x0,x1,x3,x53,x54,x55,aQ,aH,aT,aI,aJ,aK=>if x55 < x54 then (if 0≤x55 then (if x55 < (x53.length : Int) then ((cpack_of.f x3 x55).bind fun bO=>((gain_Put.f k aI aJ aK (rd_L1 x53 x55) bO aQ).bind fun bP=>(cpack_Write.l0 k x0 x1 x3 x53 x54 (wrap64 (x55+1)) aQ aH aT bP.1 bP.2.1 bP.2.2.1))) else (none)) else (none)) else ((alloc_Pulses.f k x0 x1 aH).bind fun dt=>(cpack_Write.l1 k x0 dt.1 aT (aT.length : Int) 0 aI aJ aK))
def cpack_Write.l1 : Nat→Int→List (List Int)→List (List (List Int))→Int→Int→Int→Int→List Int→Option (List Int × Int)
 | 0,_,_,_,_,_,_,_,_=>none
 | k+1,x0,x15,x81,x82,x83,aI,aJ,aK=>if x83 < x82 then (if 0≤x83 then (if x83 < (x81.length : Int) then (cpack_Write.l2 k x0 x15 x83 x81 x82 x83 (rd_L2 x81 x83) ((rd_L2 x81 x83).length : Int) 0 aI aJ aK) else (none)) else (none)) else (if 0≤x0 then (if (x0 : Int).toNat≤281474976710656 then ((some (List.replicate (x0 : Int).toNat 0 : List Int)).bind fun bo=>((coder_Finish.f aI aJ aK).bind fun bi=>(some ((bi.take bo.length ++ bo.drop bi.length),0)))) else (none)) else (none))
def cpack_Write.l2 : Nat→Int→List (List Int)→Int→List (List (List Int))→Int→Int→List (List Int)→Int→Int→Int→Int→List Int→Option (List Int × Int)
 | 0,_,_,_,_,_,_,_,_,_,_,_,_=>none
 | k+1,x0,x15,x17,x81,x82,x83,x88,x89,x90,aI,aJ,aK=>if x90 < x89 then (if 0≤x90 then (if x90 < (x88.length : Int) then (if 0≤x17 then (if x17 < (x15.length : Int) then (if x90 < ((rd_L1 x15 x17).length : Int) then (if (rd (rd_L1 x15 x17) x90)=0 then (cpack_Write.l2 k x0 x15 x17 x81 x82 x83 x88 x89 (wrap64 (x90+1)) aI aJ aK) else ((band_Width.f x90).bind fun bQ=>((comb_Count.f bQ (rd (rd_L1 x15 x17) x90)).bind fun du=>((comb_Index.f k (rd_L1 x88 x90)).bind fun dv=>((coder_PutNum.f k aI aJ aK dv.1 du.1).bind fun bR=>(cpack_Write.l2 k x0 x15 x17 x81 x82 x83 x88 x89 (wrap64 (x90+1)) bR.1 bR.2.1 bR.2.2.1)))))) else (none)) else (none)) else (none)) else (none)) else (none)) else (cpack_Write.l1 k x0 x15 x81 x82 (wrap64 (x83+1)) aI aJ aK)
end
def cpack_Write.f (k : Nat) (a0 : Int) (a1 : Int) (aM : Bool) (al : List (List Int)) (ai : List (List (List Int))) (l3 : List (List Int)) : Option (List Int × Int):=(cpack_Right.f k a0 a1 aM al ai).bind fun cV=>(if cV=true then (if aM=true then (cpack_Write.j0 k a0 a1 l3 false aM al ai) else ((cpack_gains.f k a1 l3).bind fun bY=>(cpack_Write.j0 k a0 a1 l3 (!bY) aM al ai))) else (cpack_Write.j0 k a0 a1 l3 true aM al ai))
theorem cpack_Write.mono_l : ∀ k,(∀ y0 y1 y2 y3 y4 y5 y6,LeO (cpack_Write.j0 k y0 y1 y2 y3 y4 y5 y6) (cpack_Write.j0 (k+1) y0 y1 y2 y3 y4 y5 y6))∧(∀ y0 y1 y2 y3 y4 y5 y6,LeO (cpack_Write.j1 k y0 y1 y2 y3 y4 y5 y6) (cpack_Write.j1 (k+1) y0 y1 y2 y3 y4 y5 y6))∧(∀ y0 y1 y2 y3 y4 y5 y6 y7 y8 y9 y10 y11,LeO (cpack_Write.l0 k y0 y1 y2 y3 y4 y5 y6 y7 y8 y9 y10 y11) (cpack_Write.l0 (k+1) y0 y1 y2 y3 y4 y5 y6 y7 y8 y9 y10 y11))∧(∀ y0 y1 y2 y3 y4 y5 y6 y7,LeO (cpack_Write.l1 k y0 y1 y2 y3 y4 y5 y6 y7) (cpack_Write.l1 (k+1) y0 y1 y2 y3 y4 y5 y6 y7))∧(∀ y0 y1 y2 y3 y4 y5 y6 y7 y8 y9 y10 y11,LeO (cpack_Write.l2 k y0 y1 y2 y3 y4 y5 y6 y7 y8 y9 y10 y11) (cpack_Write.l2 (k+1) y0 y1 y2 y3 y4 y5 y6 y7 y8 y9 y10 y11))
 | 0=>⟨fun _ _ _ _ _ _ _ r h=>by simp [cpack_Write.j0] at h,fun _ _ _ _ _ _ _ r h=>by simp [cpack_Write.j1] at h,fun _ _ _ _ _ _ _ _ _ _ _ _ r h=>by simp [cpack_Write.l0] at h,fun _ _ _ _ _ _ _ _ r h=>by simp [cpack_Write.l1] at h,fun _ _ _ _ _ _ _ _ _ _ _ _ r h=>by simp [cpack_Write.l2] at h⟩
 | k+1=>by
  obtain ⟨ih0,ih1,ih2,ih3,ih4⟩:=cpack_Write.mono_l k
  refine ⟨?_, ?_, ?_, ?_, ?_⟩
  ·
   intro y0 y1 y2 y3 y4 y5 y6
   unfold cpack_Write.j0
   repeat' with_reducible first|apply ih0|apply ih1|apply ih2|apply ih3|apply ih4|apply alloc_Pulses.mono|apply coder_Put.mono|apply coder_PutNum.mono|apply comb_Index.mono|apply cpack_Right.mono|apply cpack_gains.mono|apply gain_Put.mono|apply yLr|apply yLn|apply yLi|apply yLb|intro _
  ·
   intro y0 y1 y2 y3 y4 y5 y6
   unfold cpack_Write.j1
   repeat' with_reducible first|apply ih0|apply ih1|apply ih2|apply ih3|apply ih4|apply alloc_Pulses.mono|apply coder_Put.mono|apply coder_PutNum.mono|apply comb_Index.mono|apply cpack_Right.mono|apply cpack_gains.mono|apply gain_Put.mono|apply yLr|apply yLn|apply yLi|apply yLb|intro _
  ·
   intro y0 y1 y2 y3 y4 y5 y6 y7 y8 y9 y10 y11
   unfold cpack_Write.l0
   repeat' with_reducible first|apply ih0|apply ih1|apply ih2|apply ih3|apply ih4|apply alloc_Pulses.mono|apply coder_Put.mono|apply coder_PutNum.mono|apply comb_Index.mono|apply cpack_Right.mono|apply cpack_gains.mono|apply gain_Put.mono|apply yLr|apply yLn|apply yLi|apply yLb|intro _
  ·
   intro y0 y1 y2 y3 y4 y5 y6 y7
   unfold cpack_Write.l1
   repeat' with_reducible first|apply ih0|apply ih1|apply ih2|apply ih3|apply ih4|apply alloc_Pulses.mono|apply coder_Put.mono|apply coder_PutNum.mono|apply comb_Index.mono|apply cpack_Right.mono|apply cpack_gains.mono|apply gain_Put.mono|apply yLr|apply yLn|apply yLi|apply yLb|intro _
  intro y0 y1 y2 y3 y4 y5 y6 y7 y8 y9 y10 y11
  unfold cpack_Write.l2
  repeat' with_reducible first|apply ih0|apply ih1|apply ih2|apply ih3|apply ih4|apply alloc_Pulses.mono|apply coder_Put.mono|apply coder_PutNum.mono|apply comb_Index.mono|apply cpack_Right.mono|apply cpack_gains.mono|apply gain_Put.mono|apply yLr|apply yLn|apply yLi|apply yLb|intro _
theorem cpack_Write.mono : ∀ a0 a1 a2 a3 a4 a5 k,LeO (cpack_Write.f k a0 a1 a2 a3 a4 a5) (cpack_Write.f (k+1) a0 a1 a2 a3 a4 a5):=by
 intro a0 a1 a2 a3 a4 a5 k
 obtain ⟨ih0,ih1,ih2,ih3,ih4⟩:=cpack_Write.mono_l k
 unfold cpack_Write.f
 repeat' with_reducible first|apply ih0|apply ih1|apply ih2|apply ih3|apply ih4|apply alloc_Pulses.mono|apply coder_Put.mono|apply coder_PutNum.mono|apply comb_Index.mono|apply cpack_Right.mono|apply cpack_gains.mono|apply gain_Put.mono|apply yLr|apply yLn|apply yLi|apply yLb|intro _
def cpack_Write.T10 : Bool × List (List Nat × List Nat):=(true, [([], []),([], []),([], []),([], []),([2,3], [2,3]),([], []),([5], [5]),([0,1,4,6,4], [0,1,4,6]),([7], [7]),([8], [8]),([8], [8]),([9,7,0,1,2,3,4,5,6,7,8,9], [9])])
def cpack_Write.B10 : List Nat := [0,0,0,0,12,0,32,127,255,511,511,1023]
theorem cpack_Write.tab10 : rtab .any (opsOf Try.f12 10)=cpack_Write.T10:=by kernel_rfl
theorem cpack_Write.bits10 : waitsOk cpack_Write.T10.2 cpack_Write.B10=true:=by kernel_rfl
def cpack_Write.T20 : Bool × List (List Nat × List Nat):=(true, [([], []),([0], [0]),([], []),([], []),([2,3], [2,3]),([4], [4]),([], []),([5,6], [5,6]),([7], [7]),([1,8,1], [1,8]),([9], [9]),([10], [10]),([10], [10]),([11,9,0,1,2,3,4,5,6,7,8,9,10,11], [11]),([12,13,0,1,2,3,4,5,6,7,8,9,10,11,12,13], [12])])
def cpack_Write.B20 : List Nat := [0,1,0,0,12,28,0,124,252,511,1023,2047,2047,4095,16383]
theorem cpack_Write.tab20 : rtab .any (opsOf Try.f12 20)=cpack_Write.T20:=by kernel_rfl
theorem cpack_Write.bits20 : waitsOk cpack_Write.T20.2 cpack_Write.B20=true:=by kernel_rfl
set_option maxHeartbeats 8000000 in
set_option maxRecDepth 100000 in
theorem cpack_Write.calls (k : Nat) (a0 : Int) (a1 : Int) (aM : Bool) (bc : Option Addr) (ba : Nat) (al : List (List Int)) (bf : Option Addr) (bd : Nat) (ai : List (List (List Int))) (A3 : Option Addr) (c3 : Nat) (l3 : List (List Int)) (r1 : List Int) (r2 : Int) (w : World) (hr2_1 : Kd.C (Kd.slice 3 (Kd.int .i64)) w bc al.length al) (hc2_1 : al.length≤ba) (hr2_2 : Kd.C (Kd.slice 49 (Kd.slice 3 (Kd.int .i64))) w bf ai.length ai) (hc2_2 : ai.length≤bd) (hr3 : Kd.C (Kd.slice 3 (Kd.int .i64)) w A3 l3.length l3) (hc3 : l3.length≤c3) (h : cpack_Write.f k a0 a1 aM al ai l3=some (r1,r2)) :
  Calls Try.prog 12 #[.int .i64 a0, .int .i64 a1, .agg #[.bool aM, .slice bc al.length ba, .slice bf ai.length bd], .slice A3 l3.length c3] w fun e w' => ∃ v0_ : Value,e=.returned (.tuple #[v0_, .int .i64 r2])∧Kd.R (Kd.int .u8) 5 w' w.heap.size (fun _=>True) v0_ r1∧Below w.heap.size w w' := by
 have hu25:=Try.underlying25;have hu54:=Try.underlying54;have bp:=zm hr2_1;have bv:=zm hc2_1;clear hr2_1 hc2_1;have bw:=zm hr2_2;have bS:=zm hc2_2;clear hr2_2 hc2_2;have HR3:=zm hr3;have HC3:=zm hc3;clear hr3 hc3;have HB:=zm (Below.refl w.heap.size w);have H:=h
 unfold cpack_Write.f at H
 clear h;have HC5:=zm H;clear H
 go_enter Try.func12,Try.ntmps12
 go_upto_region 1 with (first|((with_reducible refine gate_dst (N:=6) rfl ?_);refine ybx 6 #[.bool aM, .slice bc al.length ba, .slice bf ai.length bd] 25 ?_;intro aU hg w6 hbox hb;have ac:=zm (hbox);have eH:=ygw hg;have eI:=ygw hg;replace HB:=ybs hb;clear hb hbox hg))
 (try simp only [Act.put,List.setIfInBounds_toArray,List.set_cons_zero,List.set_cons_succ])
 go_cut [41] (fun v41 wc => ∃ (kq : Nat) (bx : Bool),v41=.bool bx∧Aside0 (cpack_Write.j0 kq a0 a1 l3 bx aM al ai=some (r1,r2))∧Aside0 (kq≤k)∧Aside0 (wc.heap[aU]? = some (.cells #[.bool aM,(.slice bc al.length ba),(.slice bf ai.length bd)] 25 (0,0)))∧Aside0 (Below w.heap.size w wc))
 case first =>
  have H:=HC5.out;clear HC5
  obtain ⟨cV,A7,H⟩:=ybi H
  by_cases c8 : cV=true
  ·
   subst c8
   rw [if_pos rfl] at H
   by_cases c9 : aM=true
   ·
    subst c9
    rw [if_pos rfl] at H
    have H' := zm H
    clear H
    obtain ⟨_,_,_,_,_,_⟩:=yc3 ac
    go_wp2_with (first|((with_reducible refine gate_callee (f:=15) rfl ?_);refine ygl 29 Try.func15 #[.int .i64 a0, .int .i64 a1, .agg #[.bool true, .slice bc al.length ba, .slice bf ai.length bd]] ?_;(with_reducible refine (cpack_Right.calls k a0 a1 true _ _ al _ _ ai true _ ?am bv.out ?bg bS.out A7.out).mono ?_);(case am=>exact ycb bp);(case bg=>exact ycb bw);rintro e w11 ⟨rfl,hb⟩;refine ⟨_,rfl, ?_⟩;replace ac:=ybb ac hb;replace HB:=ybs hb;(try clear hb);obtain ⟨_,_,_,_,_,_⟩:=yc3 ac))
    go_meet
    case rel=>exact ⟨_,(false),yq,H',⟨yo⟩,⟨yk ac⟩,⟨yhb⟩⟩
   replace c9:=Bool.eq_false_iff.mpr c9
   subst c9
   rw [ynf] at H
   obtain ⟨bY,A13,H⟩:=ybi H
   have H' := zm H
   clear H
   obtain ⟨_,_,_,_,_,_⟩:=yc3 ac
   go_wp2_with (first|((with_reducible refine gate_callee (f:=15) rfl ?_);refine ygl 29 Try.func15 #[.int .i64 a0, .int .i64 a1, .agg #[.bool false, .slice bc al.length ba, .slice bf ai.length bd]] ?_;(with_reducible refine (cpack_Right.calls k a0 a1 false _ _ al _ _ ai true _ ?am bv.out ?bg bS.out A7.out).mono ?_);(case am=>exact ycb bp);(case bg=>exact ycb bw);rintro e w15 ⟨rfl,hb⟩;refine ⟨_,rfl, ?_⟩;replace ac:=ybb ac hb;replace HB:=ybs hb;(try clear hb);obtain ⟨_,_,_,_,_,_⟩:=yc3 ac)|(go_at_call 25;(with_reducible refine (cpack_gains.calls k a1 _ _ l3 bY _ ?am HC3.out A13.out).mono ?_);(case am=>exact ycb HR3);rintro e w' ⟨rfl,⟨nd,rfl⟩⟩))
   go_meet
   case rel=>exact ⟨_,(!bY),yq,H',⟨yo⟩,⟨yk ac⟩,⟨yhb⟩⟩
  replace c8:=Bool.eq_false_iff.mpr c8
  subst c8
  rw [ynf] at H
  have H' := zm H
  clear H
  obtain ⟨_,_,_,_,_,_⟩:=yc3 ac
  go_wp2_with (first|((with_reducible refine gate_callee (f:=15) rfl ?_);refine ygl 29 Try.func15 #[.int .i64 a0, .int .i64 a1, .agg #[.bool aM, .slice bc al.length ba, .slice bf ai.length bd]] ?_;(with_reducible refine (cpack_Right.calls k a0 a1 aM _ _ al _ _ ai false _ ?am bv.out ?bg bS.out A7.out).mono ?_);(case am=>exact ycb bp);(case bg=>exact ycb bw);rintro e w18 ⟨rfl,hb⟩;refine ⟨_,rfl, ?_⟩;replace ac:=ybb ac hb;replace HB:=ybs hb;(try clear hb)))
  go_meet
  case rel=>exact ⟨_,(true),yq,H',⟨yo⟩,⟨yk ac⟩,⟨yhb⟩⟩
 case rest =>
  clear HC5
  try clear c3
  obtain ⟨kq,bx,rfl,HA,HJ4,ac,HB⟩:=hcut
  obtain ⟨kj4,rfl⟩:=ysu kq (fun h=>by subst h;exact absurd HA.out (by simp [cpack_Write.j0]))
  have H:=HA.out;clear HA
  simp only [cpack_Write.j0] at H
  by_cases c19 : bx=true
  ·
   subst c19
   rw [if_pos rfl] at H
   simp only [Option.some.injEq,Prod.mk.injEq] at H
   obtain ⟨rfl,rfl⟩:=H
   go_wp2
   go_ret2
   exact ⟨_,ye,yn,yhb⟩
  replace c19:=Bool.eq_false_iff.mpr c19
  subst c19
  rw [ynf] at H
  have cW:=zm H;clear H
  obtain ⟨bZ,b4,b5,b6,b7,b8⟩:=yc3 ac
  go_upto_if 43 with (fail)
  go_cut [10] (fun v10 wc => ∃ (kq : Nat) (aX : Int),v10=.int .i64 aX∧Aside0 (cpack_Write.j1 kq a0 a1 l3 aX aM al ai=some (r1,r2))∧Aside0 (kq≤kj4)∧Aside0 (wc.heap[aU]? = some (.cells #[.bool aM,(.slice bc al.length ba),(.slice bf ai.length bd)] 25 (0,0)))∧Aside0 (Below w.heap.size w wc))
  case first =>
   have H:=cW.out;clear cW
   by_cases c22 : aM=true
   ·
    subst c22
    rw [if_pos rfl] at H
    have H' := zm H
    clear H
    go_wp2
    go_meet
    case rel=>exact ⟨_,(1),yq,H',⟨yom1 HJ4⟩,⟨yk ac⟩,⟨yhb⟩⟩
   replace c22:=Bool.eq_false_iff.mpr c22
   subst c22
   rw [ynf] at H
   have H' := zm H
   clear H
   go_wp2
   go_meet
   case rel=>exact ⟨_,(0),yq,H',⟨yom1 HJ4⟩,⟨yk ac⟩,⟨yhb⟩⟩
  case rest =>
   clear cW
   try clear bZ
   try clear b4
   try clear b5
   try clear b6
   try clear b7
   try clear b8
   obtain ⟨kq,aX,rfl,HA,bq,ac,HB⟩:=hcut
   obtain ⟨cX,rfl⟩:=ysu kq (fun h=>by subst h;exact absurd HA.out (by simp [cpack_Write.j1]))
   have H:=HA.out;clear HA
   simp only [cpack_Write.j1] at H
   obtain ⟨⟨cY,cZ,da⟩,A23,H⟩:=ybi H
   try dsimp only at H
   obtain ⟨⟨db,dc,b9,d5⟩,A24,H⟩:=ybi H
   try dsimp only at H
   have H' := zm H
   clear H
   go_wp2_with (first|((with_reducible refine gate_callee (f:=27) rfl ?_);refine ygl 45 Try.func27 #[] ?_;(with_reducible refine (coder_New.calls  cY cZ da _ A23.out).mono ?_);rintro e w25 ⟨eU,rfl,ho0,hb⟩;refine ⟨_,rfl, ?_⟩;have bb:=zm (Kd.R_lower ho0 (zE yhb));replace ac:=ybb ac hb;replace HB:=ybs hb;(try clear hb);(try clear ho0);obtain ⟨d6,d7,d8⟩:=Kd.R_slice bb.out;subst d8)|((with_reducible refine gate_callee (f:=26) rfl ?_);refine ygl 49 Try.func26 #[.agg #[.int .u64 cY, .int .u32 cZ, .slice d6 da.length d7], .int .i64 aX, .int .i64 (wrap64 (aX+1)), .int .i64 2] ?_;(with_reducible refine (coder_Put.calls cX cY cZ _ _ da aX (wrap64 (aX+1)) 2 db dc b9 d5 _ ?am ?bh A24.out).mono ?_);(case am=>exact yce (Kd.R_reads' bb.out).2.2);(case bh=>exact (Kd.R_reads' bb.out).2.1);rintro e w27 ⟨eV,rfl,ho0,hb⟩;refine ⟨_,rfl, ?_⟩;have bz:=zm (Kd.R_lower (Kd.R_new' ho0 (Kd.R_lt (yr bb))) (zE yhb));replace bb:=zm (Kd.R_elder' (yr bb) (Kd.R_base ho0) hb);replace ac:=ybb ac hb;replace HB:=ybs hb;(try clear hb);(try clear ho0))|((with_reducible refine gate_dst (N:=11) rfl ?_);refine ybx 11 #[.int .u64 0, .int .u32 0, .slice none 0 0] 54 ?_;intro ao hg w28 hbox hb;replace bb:=yRb bb hb;replace bz:=yRb bz hb;have ae:=zm (hbox);have eJ:=ygw hg;have eK:=ygw hg;replace HB:=ybs hb;have av:=ynl ac hg;have aw:=yng ac hg;replace ac:=ybb ac hb;clear hb hbox hg;have:=aw.out;have:=av.out;obtain ⟨ca,cb,ce,cf,cg,ch⟩:=yc3 ae;obtain ⟨dw,dx,d9⟩:=Kd.R_slice bz.out;subst d9;obtain ⟨ci,cj,ck,cl,cm,cn⟩:=yc3 ac))
   go_loopg [55] cX (fun kq v55 w' => ∃ (aV : Int) (aq : Int) (au : Int) (ax : List Int) (ah : Value),v55=.int .i64 aV∧Aside0 (cpack_Write.l0 kq a0 a1 l3 al (al.length : Int) aV aM al ai aq au ax=some (r1,r2))∧Aside0 (kq≤cX)∧Aside0 (Kd.V (Kd.int .u8) 5 w' w.heap.size (fun k_=>k_≠aU∧k_≠ao) ah ax)∧Aside0 (w'.heap[aU]? = some (.cells #[.bool aM,(.slice bc al.length ba),(.slice bf ai.length bd)] 25 (0,0)))∧Aside0 (w'.heap[ao]? = some (.cells #[.int .u64 aq, .int .u32 au,ah] 54 (0,0)))∧Aside0 (Below w.heap.size w w'))
   case atStart=>exact ⟨(0),(db),(dc),(b9),(.slice dw b9.length dx),yq,H',⟨Nat.le_refl _⟩,⟨Kd.R_V (by (with_reducible repeat (first|apply zo|apply zp|apply zq));exact zG (zH (p:=⟨ao,2,none⟩) (zH (p:=⟨ao,1,none⟩) (zH (p:=⟨ao,0,none⟩) (Kd.R_types (Kd.R_types (Kd.R_types bz.out ac.out (by decide)) ae.out (by decide)) ae.out (by decide)) (fun _ hk=>hk.2) (.int .u64 db)) (fun _ hk=>hk.2) (.int .u32 dc)) (fun _ hk=>hk.2) (.slice dw b9.length dx)) (fun _ hk=>⟨hk.1.1.2,hk.1.2⟩))⟩,⟨yk ac⟩,⟨ykp ae⟩,⟨yhb⟩⟩
   case round =>
    clear H'
    try clear ca
    try clear cb
    try clear ce
    try clear ci
    try clear cj
    try clear ck
    try clear cf
    try clear cg
    try clear ch
    try clear cl
    try clear cm
    try clear cn
    obtain ⟨aV,aq,au,ax,ah,rfl,HA,HK3,aa,ac,ae,HB⟩:=hrel
    obtain ⟨k3,rfl⟩:=ysu gk (fun h=>by subst h;exact absurd HA.out (by simp [cpack_Write.l0]))
    have H:=HA.out;clear HA
    simp only [cpack_Write.l0] at H
    by_cases c33 : aV < (al.length : Int)
    ·
     rw [if_pos c33] at H
     have cO:=yD c33
     clear c33
     obtain ⟨c34,H⟩:=yif H
     have dy : decide (0≤aV)=true:=decide_eq_true c34
     clear c34
     obtain ⟨c35,H⟩:=yif H
     have dz : decide (aV < (al.length : Int))=true:=decide_eq_true c35
     clear c35
     obtain ⟨bO,A36,H⟩:=ybi H
     obtain ⟨⟨dA,dB,dd,ea⟩,A37,H⟩:=ybi H
     try dsimp only at H
     have H' := zm H
     clear H
     have co : 0≤(aV : Int):=yt
     have cp : aV < (al.length : Int):=yt
     obtain ⟨dC,de,df,eb,bj,bA,bB⟩:=at_L1 bp.out aV co cp
     cases eb
     replace bj:=yhx HB bj
     have cq:=zm bB;have cr:=zm bA;clear bB bA
     replace co:=eq_true co
     replace cp:=eq_true cp
     try go_wp2
     replace aa:=zm (zC aa.out)
     replace ac:=zm (zj ac.out)
     replace ae:=zm (zj ae.out)
     replace HB:=zm (zf HB.out)
     refine yst (fun w' => w'.cell? ⟨ao,0,none⟩=some (.int .u64 aq)∧w'.cell? ⟨ao,1,none⟩=some (.int .u32 au)∧w'.cell? ⟨ao,2,none⟩=some (ah)∧w'.cell? ⟨aU,0,none⟩=some (.bool aM)∧w'.cell? ⟨aU,1,none⟩=some (.slice (some dC) al.length ba)∧w'.cell? ⟨aU,2,none⟩=some (.slice bf ai.length bd)) [11] 12 cpack_Write.tab10 cpack_Write.bits10 (fun hHeld HT_ HW_ => ?_)
     generalize wr.drew=w38 at aa ac ae HB hHeld ⊢
     refine yp 1 62 HT_ ?_
     refine yp 2 63 HT_ ?_
     refine yp 3 64 HT_ ?_
     refine yp 5 66 HT_ ?_
     refine yl 0 61 HT_ HW_ hHeld ?_
     refine yl 6 67 HT_ HW_ hHeld ?_
     refine yw 4 65 HT_ (fun K hK => ?_)
     refine ygs Try.func29 #[.slice A3 l3.length c3, .int .i64 aV] ?_
     with_reducible refine (cpack_of.calls (fun k_=>k_ < w.heap.size) _ _ l3 aV bO _ ?am A36.out).mono ?_
     (case am=>exact Kd.V_mk HC3.out (Kd.F_below (Kd.C_F (Kd.heap_slice 3 (Kd.heap_int .i64)) HR3.out) yhb))
     rintro e w39 ⟨eW,rfl,ho0,hb⟩
     refine ⟨_,rfl, ?_⟩
     replace aa:=yVb aa hb
     have br:=yho (fun k_=>k_≠aU∧k_≠ao) ho0 (fun k_ hk_=>⟨yoB ac hk_,yoB ae hk_⟩)
     replace ac:=ybb ac hb
     replace ae:=ybb ae hb
     replace HB:=ybs hb
     (try clear hb)
     (try clear ho0)
     obtain ⟨dD,dE,dF⟩:=Kd.V_slice aa.out
     (first|subst dF|(injection dF with f1_ f2_ f3_;have f4_:=f1_.symm;have f5_:=f3_.symm;clear f1_ f2_ f3_;subst f4_;subst f5_))
     obtain ⟨ec,ed,dG⟩:=Kd.V_slice br.out
     (first|subst dG|(injection dG with f1_ f2_ f3_;have f4_:=f1_.symm;have f5_:=f3_.symm;clear f1_ f2_ f3_;subst f4_;subst f5_))
     refine hK.out _ _ yH (fun hHeld => ?_)
     clear hK K
     refine ym (some 65) ?_
     refine yw 7 68 HT_ (fun K hK => ?_)
     refine ygs Try.func28 #[.agg #[.int .u64 aq, .int .u32 au, .slice dD ax.length dE], .slice de (rd_L1 al aV).length df, .slice ec bO.length ed, .bool aM] ?_
     with_reducible refine (gain_Put.calls k3 aq au (fun k_=>(k_≠aU∧k_≠ao)) _ _ ax _ _ (rd_L1 al aV) _ _ bO aM dA dB dd ea _ ?am ?bh ?bg ?dH ?dI A37.out).mono ?_
     (case am=>exact aa.out)
     (case bh=>exact ycb cq)
     (case bg=>exact cr.out)
     (case dH=>exact yce (Kd.V_reads' br.out).2.2)
     (case dI=>exact (Kd.V_reads' br.out).2.1)
     rintro e w42 ⟨eX,rfl,ho0,hb⟩
     refine ⟨_,rfl, ?_⟩
     replace aa:=yVb aa hb
     replace br:=yVb br hb
     have cP:=yho (fun k_=>k_≠aU∧k_≠ao) ho0 (fun k_ hk_=>⟨yoB ac hk_,yoB ae hk_⟩)
     replace ac:=ybb ac hb
     replace ae:=ybb ae hb
     replace HB:=ybs hb
     (try clear hb)
     (try clear ho0)
     obtain ⟨ee,ef,dJ⟩:=Kd.V_slice cP.out
     (first|subst dJ|(injection dJ with f1_ f2_ f3_;have f4_:=f1_.symm;have f5_:=f3_.symm;clear f1_ f2_ f3_;subst f4_;subst f5_))
     refine hK.out _ _ yH (fun hHeld => ?_)
     clear hK K
     refine ym (some 68) ?_
     refine yp 8 60 HT_ ?_
     refine yp 9 69 HT_ ?_
     refine yp 10 70 HT_ ?_
     refine last_ (i:=11) (N:=none) #[true,true,true,true,true,true,true,true,true,true,true,true] rfl rfl (one_of HT_.out (by kernel_rfl)) (by decide) (fun K hK => ?_)
     have eY : w42.cell? ⟨ao,0,none⟩=some (.int .u64 aq):=(zs ae.out 0).trans rfl
     have hfs43:=zx ae.out 0
     have:=av.out
     have:=aw.out
     have eZ : w42.cell? ⟨ao,1,none⟩=some (.int .u32 au):=(zs ae.out 1).trans rfl
     have hfs44:=zx ae.out 1
     have:=av.out
     have:=aw.out
     have e8 : w42.cell? ⟨ao,2,none⟩=some (.slice dD ax.length dE):=(zs ae.out 2).trans rfl
     have hfs46:=zx ae.out 2
     have:=av.out
     have:=aw.out
     refine skip_ (w1 := ?_) (by rfl) rfl ?_ ?_
     rotate_left
     ·
      go_simp
      rfl
     refine hK.out _ _ ?_
     clear hK K
     refine done_ (done_of HT_.out (by kernel_rfl)) ?_
     try go_wp2
     go_roundg k3
     case measure=>exact yom3 HJ4 bq HK3
     case rel=>exact ⟨(wrap64 (aV+1)),(dA),(dB),(dd),(.slice ee dd.length ef),yq,H',⟨yom3 HJ4 bq HK3⟩,⟨yV0 cP⟩,⟨yk ac⟩,⟨ykp ae⟩,⟨yhb⟩⟩
    rw [if_neg c33] at H
    have cO:=yG c33
    clear c33
    obtain ⟨⟨aW,eg⟩,A47,H⟩:=ybi H
    try dsimp only at H
    have H' := zm H
    clear H
    have:=av.out
    have:=aw.out
    obtain ⟨ct,cu,cv,cw,cx,cy⟩:=yc3 ac
    go_wp2_with (first|((with_reducible refine gate_callee (f:=30) rfl ?_);refine ygl 77 Try.func30 #[.int .i64 a0, .int .i64 a1, .slice bc al.length ba] ?_;(with_reducible refine (alloc_Pulses.calls k3 a0 a1 _ _ al aW eg _ ?am bv.out A47.out).mono ?_);(case am=>exact ycb bp);rintro e w50 ⟨cz,rfl,ho0,hb⟩;refine ⟨_,rfl, ?_⟩;replace aa:=zm (Kd.V_elder' (yr aa) (Kd.S_base ho0) hb);have dK:=zm (Kd.S_lower ho0 (zE yhb));replace ac:=ybb ac hb;replace ae:=ybb ae hb;replace HB:=ybs hb;(try clear hb);(try clear ho0);obtain ⟨cA,cB,cC,cD,cE,cF⟩:=yc3 ac))
    go_loopg [83] k3 (fun kq v83 w' => ∃ (af : Int) (ay : Int) (az : Int) (aA : List Int) (ah : Value),v83=.int .i64 af∧Aside0 (cpack_Write.l1 kq a0 aW ai (ai.length : Int) af ay az aA=some (r1,r2))∧Aside0 (kq≤k3)∧Aside0 (Kd.S (Kd.slice 3 (Kd.int .i64)) 49 w' w.heap.size (fun _=>True) cz aW)∧Aside0 (Kd.V (Kd.int .u8) 5 w' w.heap.size (fun k_=>some k_≠(cz : Value).ownBlock∧k_≠aU∧k_≠ao) ah aA)∧Aside0 (w'.heap[aU]? = some (.cells #[.bool aM,(.slice bc al.length ba),(.slice bf ai.length bd)] 25 (0,0)))∧Aside0 (w'.heap[ao]? = some (.cells #[.int .u64 ay, .int .u32 az,ah] 54 (0,0)))∧Aside0 (Below w.heap.size w w'))
    case atStart=>exact ⟨(0),(aq),(au),(ax),(ah),yq,H',⟨Nat.le_refl _⟩,⟨yr dK⟩,⟨yV0 aa⟩,⟨yk ac⟩,⟨yk ae⟩,⟨yhb⟩⟩
    case round =>
     clear H'
     try clear c3
     try clear cO
     try clear dy
     try clear dz
     try clear ct
     try clear cu
     try clear cv
     try clear cA
     try clear cB
     try clear cC
     try clear cw
     try clear cx
     try clear cy
     try clear cD
     try clear cE
     try clear cF
     try clear bj
     try clear co
     try clear cp
     obtain ⟨af,ay,az,aA,ah,rfl,HA,HK4,ag,aa,ac,ae,HB⟩:=hrel
     obtain ⟨k4,rfl⟩:=ysu gk (fun h=>by subst h;exact absurd HA.out (by simp [cpack_Write.l1]))
     have H:=HA.out;clear HA
     simp only [cpack_Write.l1] at H
     by_cases c52 : af < (ai.length : Int)
     ·
      rw [if_pos c52] at H
      have cQ:=yD c52
      clear c52
      obtain ⟨c53,H⟩:=yif H
      have dL : decide (0≤af)=true:=decide_eq_true c53
      clear c53
      obtain ⟨c54,H⟩:=yif H
      have dM : decide (af < (ai.length : Int))=true:=decide_eq_true c54
      clear c54
      have H' := zm H
      clear H
      have cG : 0≤(af : Int):=yt
      have cH : af < (ai.length : Int):=yt
      obtain ⟨dN,eh,ei,ej,bk,bC,bD⟩:=at_L2 bw.out af cG cH
      cases ej
      replace bk:=yhx HB bk
      have bE:=zm bD;have dY:=zm bC;clear bD bC
      replace cG:=eq_true cG
      replace cH:=eq_true cH
      go_wp2
      go_loopg [90] k4 (fun kq v90 w' => ∃ (aj : Int) (aC : Int) (aD : Int) (aE : List Int) (ah : Value),v90=.int .i64 aj∧Aside0 (cpack_Write.l2 kq a0 aW af ai (ai.length : Int) af (rd_L2 ai af) ((rd_L2 ai af).length : Int) aj aC aD aE=some (r1,r2))∧Aside0 (kq≤k4)∧Aside0 (Kd.S (Kd.slice 3 (Kd.int .i64)) 49 w' w.heap.size (fun _=>True) cz aW)∧Aside0 (Kd.V (Kd.int .u8) 5 w' w.heap.size (fun k_=>some k_≠(cz : Value).ownBlock∧k_≠aU∧k_≠ao) ah aE)∧Aside0 (w'.heap[aU]? = some (.cells #[.bool aM,(.slice bc al.length ba),(.slice (some dN) ai.length bd)] 25 (0,0)))∧Aside0 (w'.heap[ao]? = some (.cells #[.int .u64 aC, .int .u32 aD,ah] 54 (0,0)))∧Aside0 (Below w.heap.size w w'))
      case atStart=>exact ⟨(0),(ay),(az),(aA),(ah),yq,H',⟨Nat.le_refl _⟩,⟨yr ag⟩,⟨yr aa⟩,⟨yk ac⟩,⟨yk ae⟩,⟨yhb⟩⟩
      case round =>
       clear H'
       try clear cQ
       try clear dL
       try clear dM
       try clear bk
       try clear cG
       try clear cH
       obtain ⟨aj,aC,aD,aE,ah,rfl,HA,HK5,ag,aa,ac,ae,HB⟩:=hrel
       obtain ⟨k5,rfl⟩:=ysu gk (fun h=>by subst h;exact absurd HA.out (by simp [cpack_Write.l2]))
       have H:=HA.out;clear HA
       simp only [cpack_Write.l2] at H
       by_cases c55 : aj < ((rd_L2 ai af).length : Int)
       ·
        rw [if_pos c55] at H
        have dO:=yD c55
        clear c55
        obtain ⟨c56,H⟩:=yif H
        have eL : decide (0≤aj)=true:=decide_eq_true c56
        clear c56
        obtain ⟨c57,H⟩:=yif H
        have eM : decide (aj < ((rd_L2 ai af).length : Int))=true:=decide_eq_true c57
        clear c57
        obtain ⟨c58,H⟩:=yif H
        have eN : decide (0≤af)=true:=decide_eq_true c58
        clear c58
        obtain ⟨c59,H⟩:=yif H
        have eO : decide (af < (aW.length : Int))=true:=decide_eq_true c59
        clear c59
        obtain ⟨c60,H⟩:=yif H
        have eP : decide (aj < ((rd_L1 aW af).length : Int))=true:=decide_eq_true c60
        clear c60
        by_cases c61 : (rd (rd_L1 aW af) aj)=0
        ·
         rw [if_pos c61] at H
         obtain ⟨dP,dQ⟩:=yE c61
         clear c61
         have H' := zm H
         clear H
         have bs : 0≤(aj : Int):=yt
         have bu : aj < ((rd_L2 ai af).length : Int):=yt
         obtain ⟨dR,bT,bU,dg,aY,aZ,a7⟩:=at_L1 bE.out aj bs bu
         cases dg
         replace aY:=yhx HB aY
         have bF:=zm a7;have bG:=zm aZ;clear a7 aZ
         replace bs:=eq_true bs
         replace bu:=eq_true bu
         obtain ⟨e9,fa,ek⟩:=Kd.S_slice ag.out
         subst ek
         have bl : 0≤(af : Int):=yt
         have bm : af < (aW.length : Int):=yt
         obtain ⟨bV,dh,di,dj,bn,a8,a9⟩:=at_L1 (Kd.S_reads' ag.out).2.2 af bl bm
         cases dj
         obtain ⟨ce340,hce340,hMe340,hcc340⟩:=Kd.S_get ag.out [] af bl (by first|exact bm|exact yt|(have e_:=(Kd.S_reads' ag.out).1;omega))
         obtain ⟨ve340_0,rfl,ge340_0⟩:=hMe340
         have hv340_0:=hcc340 0 _ rfl
         rw [Nat.add_zero,show ((Kd.slice 3 (Kd.int .i64))).sz=1 from rfl,Nat.mul_one] at hv340_0
         replace hv340_0:=Option.some.inj (hv340_0.symm.trans bn)
         rw [hv340_0] at ge340_0
         have ap:=zm (show Kd.R (Kd.int .i64) 3 _ _ _ _ (rd_L1 aW af) from ge340_0)
         clear hv340_0 ge340_0 hcc340 hce340;have ak:=zm a9;have cI:=zm a8;clear a9 a8
         replace bl:=eq_true bl
         replace bm:=eq_true bm
         obtain ⟨dS,dk,cJ,el,em⟩:=yai ak aj
         cases dk
         go_wp2
         go_roundg k5
         case measure=>exact yom5 HJ4 bq HK3 HK4 HK5
         case rel=>exact ⟨(wrap64 (aj+1)),(aC),(aD),(aE),(ah),yq,H',⟨yom5 HJ4 bq HK3 HK4 HK5⟩,⟨yr ag⟩,⟨yr aa⟩,⟨yk ac⟩,⟨yk ae⟩,⟨yhb⟩⟩
        rw [if_neg c61] at H
        obtain ⟨dP,dQ⟩:=yF c61
        obtain ⟨bQ,A63,H⟩:=ybi H
        obtain ⟨⟨dl,en⟩,A64,H⟩:=ybi H
        try dsimp only at H
        obtain ⟨⟨dm,eo⟩,A65,H⟩:=ybi H
        try dsimp only at H
        obtain ⟨⟨dp,dq,cK,ep⟩,A66,H⟩:=ybi H
        try dsimp only at H
        have H' := zm H
        clear H
        have bs : 0≤(aj : Int):=yt
        have bu : aj < ((rd_L2 ai af).length : Int):=yt
        obtain ⟨dR,bT,bU,dg,aY,aZ,a7⟩:=at_L1 bE.out aj bs bu
        cases dg
        replace aY:=yhx HB aY
        have bF:=zm a7;have bG:=zm aZ;clear a7 aZ
        replace bs:=eq_true bs
        replace bu:=eq_true bu
        obtain ⟨fb,fc,eq⟩:=Kd.S_slice ag.out
        subst eq
        have bl : 0≤(af : Int):=yt
        have bm : af < (aW.length : Int):=yt
        obtain ⟨bV,dh,di,dj,bn,a8,a9⟩:=at_L1 (Kd.S_reads' ag.out).2.2 af bl bm
        cases dj
        obtain ⟨ce340,hce340,hMe340,hcc340⟩:=Kd.S_get ag.out [] af bl (by first|exact bm|exact yt|(have e_:=(Kd.S_reads' ag.out).1;omega))
        obtain ⟨ve340_0,rfl,ge340_0⟩:=hMe340
        have hv340_0:=hcc340 0 _ rfl
        rw [Nat.add_zero,show ((Kd.slice 3 (Kd.int .i64))).sz=1 from rfl,Nat.mul_one] at hv340_0
        replace hv340_0:=Option.some.inj (hv340_0.symm.trans bn)
        rw [hv340_0] at ge340_0
        have ap:=zm (show Kd.R (Kd.int .i64) 3 _ _ _ _ (rd_L1 aW af) from ge340_0)
        clear hv340_0 ge340_0 hcc340 hce340;have ak:=zm a9;have cI:=zm a8;clear a9 a8
        replace bl:=eq_true bl
        replace bm:=eq_true bm
        obtain ⟨dS,dk,cJ,el,em⟩:=yai ak aj
        cases dk
        try go_wp2
        replace ag:=zm (Kd.S_drew ag.out)
        replace aa:=zm (zC aa.out)
        replace ap:=zm (zq ap.out)
        replace ac:=zm (zj ac.out)
        replace ae:=zm (zj ae.out)
        replace ak:=zm (Kd.C_drew ak.out)
        replace HB:=zm (zf HB.out)
        have cL : 0≤(af : Int):=yt
        have cM : af < (aW.length : Int):=yt
        obtain ⟨dT,er,dr,es,bH,bI,bJ⟩:=at_L1 (Kd.S_reads' ag.out).2.2 af cL cM
        obtain rfl : bV=dT:=(by injection es)
        obtain ⟨ce343,hce343,hMe343,hcc343⟩:=Kd.S_get ag.out [] af cL (by first|exact cM|exact yt|(have e_:=(Kd.S_reads' ag.out).1;omega))
        obtain ⟨ve343_0,rfl,ge343_0⟩:=hMe343
        have hv343_0:=hcc343 0 _ rfl
        rw [Nat.add_zero,show ((Kd.slice 3 (Kd.int .i64))).sz=1 from rfl,Nat.mul_one] at hv343_0
        replace hv343_0:=Option.some.inj (hv343_0.symm.trans bH)
        rw [hv343_0] at ge343_0
        have aN:=zm (show Kd.R (Kd.int .i64) 3 _ _ _ _ (rd_L1 aW af) from ge343_0)
        clear hv343_0 ge343_0 hcc343 hce343;have aG:=zm bJ;have dZ:=zm bI;clear bJ bI
        replace cL:=eq_true cL
        replace cM:=eq_true cM
        obtain ⟨cR,et,cN,fd,fe⟩:=yai aG aj
        cases et
        refine yst (fun w' => w'.cell? (bV.add (af).toNat)=some (.slice (some cR) (rd_L1 aW af).length dr)∧w'.cell? (cR.add (aj).toNat)=some (.int .i64 (rd (rd_L1 aW af) aj))) [] 15 cpack_Write.tab20 cpack_Write.bits20 (fun hHeld HT_ HW_ => ?_)
        generalize wr.drew=w68 at ag aa ap ac ae ak HB aN aG bH cN hHeld ⊢
        refine yp 0 104 HT_ ?_
        refine yp 2 106 HT_ ?_
        refine yp 3 107 HT_ ?_
        refine yp 4 108 HT_ ?_
        refine yp 6 110 HT_ ?_
        refine yl 5 109 HT_ HW_ hHeld ?_
        refine yp 7 111 HT_ ?_
        refine yl 8 112 HT_ HW_ hHeld ?_
        refine yw 1 105 HT_ (fun K hK => ?_)
        refine ygs Try.func32 #[.int .i64 aj] ?_
        with_reducible refine (band_Width.calls aj bQ _ A63.out).mono ?_
        rintro e w69 ⟨rfl,hb⟩
        have eu:=yhs hb hHeld.1
        have ev:=yhs hb hHeld.2
        refine ⟨_,rfl, ?_⟩
        replace ag:=ySb ag hb
        replace aa:=yVb aa hb
        replace ap:=yRb ap hb
        replace aN:=yRb aN hb
        replace ac:=ybb ac hb
        replace ae:=ybb ae hb
        replace ak:=yCb ak hb
        replace aG:=yCb aG hb
        replace HB:=ybs hb
        (try clear hb)
        refine hK.out _ _ yH (fun hHeld => ?_)
        clear hK K
        refine ym (some 105) ?_
        refine yw 9 113 HT_ (fun K hK => ?_)
        refine ygs Try.func31 #[.int .i64 bQ, .int .i64 (rd (rd_L1 aW af) aj)] ?_
        with_reducible refine (comb_Count.calls bQ (rd (rd_L1 aW af) aj) dl en _ A64.out).mono ?_
        rintro e w70 ⟨rfl,hb⟩
        have eu:=yhs hb hHeld.1
        have ev:=yhs hb hHeld.2
        refine ⟨_,rfl, ?_⟩
        replace ag:=ySb ag hb
        replace aa:=yVb aa hb
        replace ap:=yRb ap hb
        replace aN:=yRb aN hb
        replace ac:=ybb ac hb
        replace ae:=ybb ae hb
        replace ak:=yCb ak hb
        replace aG:=yCb aG hb
        replace HB:=ybs hb
        (try clear hb)
        refine hK.out _ _ yH (fun hHeld => ?_)
        clear hK K
        refine ym (some 113) ?_
        refine yp 10 103 HT_ ?_
        refine yp 11 114 HT_ ?_
        refine yp 12 115 HT_ ?_
        refine yp 13 21 HT_ ?_
        refine yp 14 22 HT_ ?_
        refine done_ (done_of HT_.out (by kernel_rfl)) ?_
        try go_wp2_with (first|((with_reducible refine gate_callee (f:=33) rfl ?_);refine ygl 118 Try.func33 #[.slice bT (rd_L1 (rd_L2 ai af) aj).length bU] ?_;(with_reducible refine (comb_Index.calls k5 _ _ (rd_L1 (rd_L2 ai af) aj) dm eo _ ?am bG.out A65.out).mono ?_);(case am=>exact ycb bF);rintro e w71 ⟨rfl,hb⟩;refine ⟨_,rfl, ?_⟩;replace ag:=ySb ag hb;replace aa:=yVb aa hb;replace ap:=yRb ap hb;replace aN:=yRb aN hb;replace ac:=ybb ac hb;replace ae:=ybb ae hb;replace ak:=yCb ak hb;replace aG:=yCb aG hb;replace HB:=ybs hb;(try clear hb);have:=aw.out;have:=av.out;obtain ⟨_,_,_,_,_,_⟩:=yc3 ae;obtain ⟨ew,ey,ez⟩:=Kd.V_slice aa.out;subst ez)|((with_reducible refine gate_callee (f:=34) rfl ?_);refine ygl 125 Try.func34 #[.agg #[.int .u64 aC, .int .u32 aD, .slice ew aE.length ey], .int .u64 dm, .int .u64 dl] ?_;(with_reducible refine (coder_PutNum.calls k5 aC aD _ _ aE dm dl dp dq cK ep _ ?am ?bh A66.out).mono ?_);(case am=>exact yce (Kd.V_reads' aa.out).2.2);(case bh=>exact (Kd.V_reads' aa.out).2.1);rintro e w75 ⟨ff,rfl,ho0,hb⟩;refine ⟨_,rfl, ?_⟩;replace ag:=ySb ag hb;replace aa:=zm (Kd.V_elder' (yr aa) (Kd.R_base ho0) hb);replace ap:=yRb ap hb;replace aN:=yRb aN hb;have cS:=zm (Kd.R_lower ho0 (zE yhb));replace ac:=ybb ac hb;replace ae:=ybb ae hb;replace ak:=yCb ak hb;replace aG:=yCb aG hb;replace HB:=ybs hb;(try clear hb);(try clear ho0);obtain ⟨_,_,_,_,_,_⟩:=yc3 ae;obtain ⟨dU,dV,eA⟩:=Kd.R_slice cS.out;subst eA))
        go_roundg k5
        case measure=>exact yom5 HJ4 bq HK3 HK4 HK5
        case rel=>exact ⟨(wrap64 (aj+1)),(dp),(dq),(cK),(.slice dU cK.length dV),yq,H',⟨yom5 HJ4 bq HK3 HK4 HK5⟩,⟨yS1 ag ae⟩,⟨Kd.R_V (by (with_reducible repeat (first|apply zo|apply zp|apply zq));exact zG (zH (p:=⟨ao,2,none⟩) (zH (p:=⟨ao,1,none⟩) (zH (p:=⟨ao,0,none⟩) (Kd.R_types (Kd.R_types (Kd.R_types (Kd.R_apart' cS.out (Kd.S_typed ag.out) (by decide)) ac.out (by decide)) ae.out (by decide)) ae.out (by decide)) (fun _ hk=>hk.2) (.int .u64 dp)) (fun _ hk=>hk.2) (.int .u32 dq)) (fun _ hk=>hk.2) (.slice dU cK.length dV)) (fun _ hk=>⟨hk.1.1.1.2,⟨hk.1.1.2,hk.1.2⟩⟩))⟩,⟨yk ac⟩,⟨ykp ae⟩,⟨yhb⟩⟩
       rw [if_neg c55] at H
       have dO:=yG c55
       clear c55
       have H' := zm H
       clear H
       go_wp2
       go_roundg k5
       case measure=>exact yom5 HJ4 bq HK3 HK4 HK5
       case rel=>exact ⟨(wrap64 (af+1)),(aC),(aD),(aE),(ah),yq,H',⟨yom5 HJ4 bq HK3 HK4 HK5⟩,⟨yr ag⟩,⟨yr aa⟩,⟨yk ac⟩,⟨yk ae⟩,⟨yhb⟩⟩
     rw [if_neg c52] at H
     have cQ:=yG c52
     clear c52
     obtain ⟨c78,H⟩:=yif H
     have eQ:=eq_true c78
     have eR : decide (0≤a0)=true:=decide_eq_true c78
     clear c78
     obtain ⟨c79,H⟩:=yif H
     have eS:=eq_true c79
     have eT : decide ((a0 : Int).toNat≤281474976710656)=true:=decide_eq_true c79
     clear c79
     obtain ⟨bo,bW⟩ : ∃ y_ : List Int,y_=(List.replicate (a0 : Int).toNat 0):=⟨_,rfl⟩
     replace H : ((coder_Finish.f ay az aA).bind fun bi=>(some ((bi.take bo.length ++ bo.drop bi.length),0)))=some (r1,r2):=yrw bW H
     have cT:=zm bW;clear bW
     obtain ⟨bi,A80,H⟩:=ybi H
     by_cases c81 : True
     ·
      have _h:=c81;have LMc81:=zm c81;clear c81
      obtain ⟨eB,bX⟩ : ∃ y_ : List Int,y_=(bi.take bo.length ++ bo.drop bi.length):=⟨_,rfl⟩
      replace H : (some (eB,0))=some (r1,r2):=yrw bX H
      have dW:=zm bX;clear bX
      simp only [Option.some.injEq,Prod.mk.injEq] at H
      obtain ⟨rfl,rfl⟩:=H
      go_wp2_with (first|((with_reducible refine gate_dst (N:=131) rfl ?_);refine Kd.R_make (Kd.int .u8) _ 5 rfl (N:=131) rfl 28 _ _ rfl a0 rfl rfl Try.underlying28 (.int .u8 0) 1 info5 rfl (by decide) (by omega) 0 (ok:=fun _=>True) (okp:=fun _=>True) rfl (fun _ hk=>hk) trivial (yt) (Nat.le_trans (Nat.mul_le_mul_right _ (yt : a0.toNat≤281474976710656)) (by omega)) (Below.refl _ _) (Nat.le_refl _) ?_;intro eC w82 bL hb hg_ hnew_;clear hg_ hnew_;(first|rw [← cT.out] at bL|(simp only [Int.reduceToNat] at bL;rw [← cT.out] at bL));replace ag:=ySb ag hb;replace aa:=zm (Kd.V_elder' (yr aa) (Kd.R_base bL) hb);have bK:=zm (Kd.R_lower bL (zE yhb));replace ac:=ybb ac hb;replace ae:=ybb ae hb;replace HB:=ybs hb;clear hb bL;have:=aw.out;have:=av.out;obtain ⟨_,_,_,_,_,_⟩:=yc3 ae;obtain ⟨eD,eE,eF⟩:=Kd.V_slice aa.out;subst eF)|((with_reducible refine gate_callee (f:=35) rfl ?_);refine ygl 134 Try.func35 #[.agg #[.int .u64 ay, .int .u32 az, .slice eD aA.length eE]] ?_;(with_reducible refine (coder_Finish.calls ay az _ _ aA bi _ ?am ?bh A80.out).mono ?_);(case am=>exact yce (Kd.V_reads' aa.out).2.2);(case bh=>exact (Kd.V_reads' aa.out).2.1);rintro e w87 ⟨fg,rfl,ho0,hb⟩;refine ⟨_,rfl, ?_⟩;replace ag:=ySb ag hb;replace aa:=zm (Kd.V_elder' (yr aa) (Kd.R_base ho0) hb);have cU:=zm (Kd.R_lower (Kd.R_new' ho0 (Kd.R_lt (yr bK))) (zE yhb));replace bK:=zm (Kd.R_elder' (yr bK) (Kd.R_base ho0) hb);replace ac:=ybb ac hb;replace ae:=ybb ae hb;replace HB:=ybs hb;(try clear hb);(try clear ho0);obtain ⟨fh,fi,eG⟩:=Kd.R_slice cU.out;subst eG)|((with_reducible refine gate_builtin (b:=.copy) (xs := #[.tmp 132, .tmp 134]) rfl ?_);refine cpack_Write.copyRow (k:=.u8) (w0:=w) w.heap.size rfl (.tmp 132) (.tmp 134) 28 5 rfl Try.underlying28 info5 eC bo bi _ _ _ (fun _=>True) rfl rfl ?aO ?aR ?aB ?_;(case aO=>exact (yR0 bK));(case aR=>exact yce (Kd.R_reads' cU.out).2.2);(case aB=>exact yhb);intro w88 ho hb;rw [← dW.out] at ho;clear HB;have dX:=zm ho;have HB:=zm hb;clear ho hb))
      go_ret2
      exact ⟨_,ye,yR0 dX,yhb⟩
     exact absurd trivial c81
def w13_As.f (aj : Bool) (aa : List (List Int)) (ac : List (List (List Int))) : Option (Bool × (List (List Int)) × (List (List (List Int)))):=some (aj,aa,ac)
set_option maxHeartbeats 8000000 in
set_option maxRecDepth 100000 in
theorem w13_As.calls (aj : Bool) (ae : Nat→Prop) (am : Option Addr) (ao : Nat) (aa : List (List Int)) (af : Nat→Prop) (ap : Option Addr) (aq : Nat) (ac : List (List (List Int))) (r1 : Bool) (r2 : List (List Int)) (r3 : List (List (List Int))) (w : World) (av : Kd.V (Kd.slice 3 (Kd.int .i64)) 49 w w.heap.size (fun k_=>ae k_) (.slice am aa.length ao) aa) (aw : Kd.V (Kd.slice 49 (Kd.slice 3 (Kd.int .i64))) 22 w w.heap.size (fun k_=>af k_) (.slice ap ac.length aq) ac) (h : w13_As.f aj aa ac=some (r1,r2,r3)) :
  Calls Try.prog 14 #[.agg #[.bool aj, .slice am aa.length ao, .slice ap ac.length aq]] w fun e w' => ∃ v1_ v2_ : Value,e=.returned (.agg #[.bool r1,v1_,v2_])∧Kd.V (Kd.slice 3 (Kd.int .i64)) 49 w' w.heap.size (fun k_=>((ae k_∨af k_)∨w.heap.size≤k_)) v1_ r2∧Kd.V (Kd.slice 49 (Kd.slice 3 (Kd.int .i64))) 22 w' w.heap.size (fun k_=>((ae k_∨af k_)∨w.heap.size≤k_)) v2_ r3∧Below w.heap.size w w' := by
 have hu25:=Try.underlying25;have hu33:=Try.underlying33
 have ag:=zm (show Kd.V (Kd.slice 3 (Kd.int .i64)) 49 w w.heap.size (fun k_=>((ae k_∨af k_)∨w.heap.size≤k_)) (.slice am aa.length ao) aa from zy av (fun k_ hk => .inl (.inl hk)))
 have ah:=zm (show Kd.V (Kd.slice 49 (Kd.slice 3 (Kd.int .i64))) 22 w w.heap.size (fun k_=>((ae k_∨af k_)∨w.heap.size≤k_)) (.slice ap ac.length aq) ac from zy aw (fun k_ hk => .inl (.inr hk)))
 have HB:=zm (Below.refl w.heap.size w);have H:=h
 unfold w13_As.f at H
 clear h
 simp only [Option.some.injEq,Prod.mk.injEq] at H
 obtain ⟨rfl,rfl,rfl⟩:=H
 go_enter Try.func14,Try.ntmps14
 go_wp2_with (first|((with_reducible refine gate_dst (N:=1) rfl ?_);refine ybx 1 #[.bool aj, .slice am aa.length ao, .slice ap ac.length aq] 25 ?_;intro ay hg w2 hbox hb;replace ag:=yVe ag hg hb;replace ah:=yVe ah hg hb;have ai:=zm (hbox);have az:=ygw hg;have aA:=ygw hg;replace HB:=ybs hb;clear hb hbox hg)|((with_reducible refine gate_dst (N:=2) rfl ?_);refine ybx 2 #[.bool false, .slice none 0 0, .slice none 0 0] 33 ?_;intro ax hg w3 hbox hb;replace ag:=yVe ag hg hb;replace ah:=yVe ah hg hb;have au:=zm (hbox);have aC:=ygw hg;have aD:=ygw hg;replace HB:=ybs hb;have ak:=ynl ai hg;have al:=yng ai hg;replace ai:=ybb ai hb;clear hb hbox hg;have:=ak.out;have:=al.out;obtain ⟨_,_,_,_,_,_⟩:=yc3 ai;obtain ⟨_,_,_,_,_,_⟩:=yc3 au))
 refine bodyPost_ret (results_cell_row rfl _ _ ax 33 #[.bool aj, .slice am aa.length ao, .slice ap ac.length aq] (0,0) _ rfl (ykp au) Try.underlying33 rfl (by kernel_rfl)) rfl ?_
 exact ⟨_,_,ye,yV0 ag,yV0 ah,yhb⟩
def w13_wide.l0 : Nat→List (List Int)→Int→Option (Bool)
 | 0,_,_=>none
 | k+1,x0,x3=>if x3 < (x0.length : Int) then (if 0≤x3 then (if ((rd_L1 x0 x3).length : Int) > 60 then (some true) else (w13_wide.l0 k x0 (wrap64 (x3+1)))) else (none)) else (some (decide ((x0.length : Int) > 10)))
def w13_wide.f (k : Nat) (l0 : List (List Int)) : Option (Bool):=w13_wide.l0 k l0 0
theorem w13_wide.mono_l : ∀ k,(∀ y0 y1,LeO (w13_wide.l0 k y0 y1) (w13_wide.l0 (k+1) y0 y1))
 | 0=>fun _ _ r h=>by simp [w13_wide.l0] at h
 | k+1=>by
  have ih0:=w13_wide.mono_l k
  ·
   intro y0 y1
   unfold w13_wide.l0
   repeat' with_reducible first|apply ih0|apply yLr|apply yLn|apply yLi|apply yLb|intro _
theorem w13_wide.mono : ∀ a0 k,LeO (w13_wide.f k a0) (w13_wide.f (k+1) a0):=by
 intro a0 k
 have ih0:=w13_wide.mono_l k
 unfold w13_wide.f
 repeat' with_reducible first|apply ih0|apply yLr|apply yLn|apply yLi|apply yLb|intro _
set_option maxHeartbeats 8000000 in
set_option maxRecDepth 100000 in
theorem w13_wide.calls (k : Nat) (A0 : Option Addr) (c0 : Nat) (l0 : List (List Int)) (r : Bool) (w : World) (hr0 : Kd.C (Kd.slice 3 (Kd.int .i64)) w A0 l0.length l0) (hc0 : l0.length≤c0) (h : w13_wide.f k l0=some r) :
  Calls Try.prog 19 #[.slice A0 l0.length c0] w fun e w' => e=.returned (.bool r)∧Drawn0 w w' := by
 have HR0:=zm hr0;have HC0:=zm hc0;clear hr0 hc0;have H:=h
 unfold w13_wide.f at H
 clear h
 have H' := zm H
 clear H
 go_enter Try.func19,Try.ntmps19
 go_wp2
 go_loopg [3] k (fun kq v3 w' => ∃ (aa : Int),v3=.int .i64 aa∧Aside0 (w13_wide.l0 kq l0 aa=some r)∧Aside0 (kq≤k)∧Drawn0 w w')
 case atStart=>exact ⟨(0),yq,H',⟨Nat.le_refl _⟩,yd⟩
 case round =>
  clear H'
  obtain ⟨aa,rfl,HA,HK1,⟨m1,rfl⟩⟩:=hrel
  obtain ⟨k1,rfl⟩:=ysu gk (fun h=>by subst h;exact absurd HA.out (by simp [w13_wide.l0]))
  have H:=HA.out;clear HA
  simp only [w13_wide.l0] at H
  by_cases c2 : aa < (l0.length : Int)
  ·
   rw [if_pos c2] at H
   have ap:=yD c2
   clear c2
   obtain ⟨c3,H⟩:=yif H
   have av : decide (0≤aa)=true:=decide_eq_true c3
   clear c3
   by_cases c4 : ((rd_L1 l0 aa).length : Int) > 60
   ·
    rw [if_pos c4] at H
    have aq:=yDs c4
    have au : decide (60 < (rd_L1 l0 aa).length)=true:=decide_eq_true (by omega)
    clear c4
    obtain rfl:=Option.some.inj H
    have af : 0≤(aa : Int):=yt
    have ag : aa < (l0.length : Int):=yt
    obtain ⟨ao,ak,al,am,ah,ac,ae⟩:=at_L1 HR0.out aa af ag
    cases am
    have ai:=zm ae;have aj:=zm ac;clear ae ac
    replace af:=eq_true af
    replace ag:=eq_true ag
    go_wp2
    go_ret
    exact ⟨yq,yd⟩
   rw [if_neg c4] at H
   have aq:=yGs c4
   have au : decide (60 < (rd_L1 l0 aa).length)=false:=decide_eq_false (by omega)
   clear c4
   have H' := zm H
   clear H
   have af : 0≤(aa : Int):=yt
   have ag : aa < (l0.length : Int):=yt
   obtain ⟨ao,ak,al,am,ah,ac,ae⟩:=at_L1 HR0.out aa af ag
   cases am
   have ai:=zm ae;have aj:=zm ac;clear ae ac
   replace af:=eq_true af
   replace ag:=eq_true ag
   go_wp2
   go_roundg k1
   case measure=>exact yom1 HK1
   case rel=>exact ⟨(wrap64 (aa+1)),yq,H',⟨yom1 HK1⟩,yd⟩
  rw [if_neg c2] at H
  have ap:=yG c2
  clear c2
  obtain rfl:=Option.some.inj H
  go_wp2
  go_ret
  exact ⟨yq,yd⟩
mutual
def w13_great.j0 : Nat→Bool→Bool→List (List Int)→List (List (List Int))→Option (Bool)
 | 0,_,_,_,_=>none
 | k+1,x18,am,ao,ah=>if x18=true then (some true) else (w13_great.l0 k 0 am ao ah)
def w13_great.l0 : Nat→Int→Bool→List (List Int)→List (List (List Int))→Option (Bool)
 | 0,_,_,_,_=>none
 | k+1,x5,am,ao,ah=>if x5 < (ah.length : Int) then (if 0≤x5 then ((w13_wide.f k (rd_L2 ah x5)).bind fun aJ=>(if aJ=true then (some true) else (w13_great.l0 k (wrap64 (x5+1)) am ao ah))) else (none)) else (some false)
end
def w13_great.f (k : Nat) (al : Bool) (ac : List (List Int)) (aa : List (List (List Int))) (l1 : List (List Int)) : Option (Bool):=(w13_wide.f k ac).bind fun aK=>(if aK=true then (w13_great.j0 k true al ac aa) else ((w13_wide.f k l1).bind fun aM=>(if aM=true then (w13_great.j0 k true al ac aa) else (w13_great.j0 k (decide ((aa.length : Int) > 10)) al ac aa))))
theorem w13_great.mono_l : ∀ k,(∀ y0 y1 y2 y3,LeO (w13_great.j0 k y0 y1 y2 y3) (w13_great.j0 (k+1) y0 y1 y2 y3))∧(∀ y0 y1 y2 y3,LeO (w13_great.l0 k y0 y1 y2 y3) (w13_great.l0 (k+1) y0 y1 y2 y3))
 | 0=>⟨fun _ _ _ _ r h=>by simp [w13_great.j0] at h,fun _ _ _ _ r h=>by simp [w13_great.l0] at h⟩
 | k+1=>by
  obtain ⟨ih0,ih1⟩:=w13_great.mono_l k
  refine ⟨?_, ?_⟩
  ·
   intro y0 y1 y2 y3
   unfold w13_great.j0
   repeat' with_reducible first|apply ih0|apply ih1|apply w13_wide.mono|apply yLr|apply yLn|apply yLi|apply yLb|intro _
  intro y0 y1 y2 y3
  unfold w13_great.l0
  repeat' with_reducible first|apply ih0|apply ih1|apply w13_wide.mono|apply yLr|apply yLn|apply yLi|apply yLb|intro _
theorem w13_great.mono : ∀ a0 a1 a2 a3 k,LeO (w13_great.f k a0 a1 a2 a3) (w13_great.f (k+1) a0 a1 a2 a3):=by
 intro a0 a1 a2 a3 k
 obtain ⟨ih0,ih1⟩:=w13_great.mono_l k
 unfold w13_great.f
 repeat' with_reducible first|apply ih0|apply ih1|apply w13_wide.mono|apply yLr|apply yLn|apply yLi|apply yLb|intro _
set_option maxHeartbeats 8000000 in
set_option maxRecDepth 100000 in
theorem w13_great.calls (k : Nat) (al : Bool) (au : Option Addr) (av : Nat) (ac : List (List Int)) (aC : Option Addr) (aD : Nat) (aa : List (List (List Int))) (A1 : Option Addr) (c1 : Nat) (l1 : List (List Int)) (r : Bool) (w : World) (hr0_1 : Kd.C (Kd.slice 3 (Kd.int .i64)) w au ac.length ac) (hc0_1 : ac.length≤av) (hr0_2 : Kd.C (Kd.slice 49 (Kd.slice 3 (Kd.int .i64))) w aC aa.length aa) (hc0_2 : aa.length≤aD) (hr1 : Kd.C (Kd.slice 3 (Kd.int .i64)) w A1 l1.length l1) (hc1 : l1.length≤c1) (h : w13_great.f k al ac aa l1=some r) :
  Calls Try.prog 10 #[.agg #[.bool al, .slice au ac.length av, .slice aC aa.length aD], .slice A1 l1.length c1] w fun e w' => e=.returned (.bool r)∧Below w.heap.size w w' := by
 have hu25:=Try.underlying25;have aE:=zm hr0_1;have aG:=zm hc0_1;clear hr0_1 hc0_1;have aH:=zm hr0_2;have aU:=zm hc0_2;clear hr0_2 hc0_2;have HR1:=zm hr1;have HC1:=zm hc1;clear hr1 hc1;have HB:=zm (Below.refl w.heap.size w);have H:=h
 unfold w13_great.f at H
 clear h;have HC3:=zm H;clear H
 go_enter Try.func10,Try.ntmps10
 go_upto_region 1 with (first|((with_reducible refine gate_dst (N:=2) rfl ?_);(try (refine gate_guard (by rfl) ?_;dsimp only));refine ybx 2 #[.bool al, .slice au ac.length av, .slice aC aa.length aD] 25 ?_;intro aI hg w4 hbox hb;have ae:=zm (hbox);have aV:=ygw hg;have aW:=ygw hg;replace HB:=ybs hb;clear hb hbox hg))
 (try simp only [Act.put,List.setIfInBounds_toArray,List.set_cons_zero,List.set_cons_succ])
 go_cut [18] (fun v18 wc => ∃ (kq : Nat) (aA : Bool),v18=.bool aA∧Aside0 (w13_great.j0 kq aA al ac aa=some r)∧Aside0 (kq≤k)∧Aside0 (wc.heap[aI]? = some (.cells #[.bool al,(.slice au ac.length av),(.slice aC aa.length aD)] 25 (0,0)))∧Aside0 (Below w.heap.size w wc))
 case first =>
  have H:=HC3.out;clear HC3
  obtain ⟨aK,A5,H⟩:=ybi H
  by_cases c6 : aK=true
  ·
   subst c6
   rw [if_pos rfl] at H
   have H' := zm H
   clear H
   obtain ⟨_,_,_,_,_,_⟩:=yc3 ae
   go_wp2_with (first|((with_reducible refine gate_callee (f:=19) rfl ?_);refine ygl 8 Try.func19 #[.slice au ac.length av] ?_;(with_reducible refine (w13_wide.calls k _ _ ac true _ ?af aG.out A5.out).mono ?_);(case af=>exact ycb aE);rintro e w' ⟨rfl,⟨nd,rfl⟩⟩;refine ⟨_,rfl, ?_⟩))
   go_meet
   case rel=>exact ⟨_,(true),yq,H',⟨yo⟩,⟨yk ae⟩,⟨yhb⟩⟩
  replace c6:=Bool.eq_false_iff.mpr c6
  subst c6
  rw [ynf] at H
  obtain ⟨aM,A8,H⟩:=ybi H
  by_cases c9 : aM=true
  ·
   subst c9
   rw [if_pos rfl] at H
   have H' := zm H
   clear H
   obtain ⟨_,_,_,_,_,_⟩:=yc3 ae
   go_wp2_with (first|((with_reducible refine gate_callee (f:=19) rfl ?_);refine ygl 8 Try.func19 #[.slice au ac.length av] ?_;(with_reducible refine (w13_wide.calls k _ _ ac false _ ?af aG.out A5.out).mono ?_);(case af=>exact ycb aE);rintro e w' ⟨rfl,⟨nd,rfl⟩⟩;refine ⟨_,rfl, ?_⟩)|(go_at_call 19;(with_reducible refine (w13_wide.calls k _ _ l1 true _ ?af HC1.out A8.out).mono ?_);(case af=>exact ycb HR1);rintro e w' ⟨rfl,⟨nd,rfl⟩⟩))
   go_meet
   case rel=>exact ⟨_,(true),yq,H',⟨yo⟩,⟨yk ae⟩,⟨yhb⟩⟩
  replace c9:=Bool.eq_false_iff.mpr c9
  subst c9
  rw [ynf] at H
  have H' := zm H
  clear H
  obtain ⟨_,_,_,_,_,_⟩:=yc3 ae
  go_wp2_with (first|((with_reducible refine gate_callee (f:=19) rfl ?_);refine ygl 8 Try.func19 #[.slice au ac.length av] ?_;(with_reducible refine (w13_wide.calls k _ _ ac false _ ?af aG.out A5.out).mono ?_);(case af=>exact ycb aE);rintro e w' ⟨rfl,⟨nd,rfl⟩⟩;refine ⟨_,rfl, ?_⟩)|(go_at_call 19;(with_reducible refine (w13_wide.calls k _ _ l1 false _ ?af HC1.out A8.out).mono ?_);(case af=>exact ycb HR1);rintro e w' ⟨rfl,⟨nd,rfl⟩⟩))
  go_meet
  case rel=>exact ⟨_,(decide ((aa.length : Int) > 10)),yq,H',⟨yo⟩,⟨yk ae⟩,⟨yhb⟩⟩
 case rest =>
  clear HC3
  try clear c1
  obtain ⟨kq,aA,rfl,HA,HJ2,ae,HB⟩:=hcut
  obtain ⟨kj2,rfl⟩:=ysu kq (fun h=>by subst h;exact absurd HA.out (by simp [w13_great.j0]))
  have H:=HA.out;clear HA
  simp only [w13_great.j0] at H
  by_cases c12 : aA=true
  ·
   subst c12
   rw [if_pos rfl] at H
   obtain rfl:=Option.some.inj H
   go_wp2
   go_ret
   exact ⟨ye,yhb⟩
  replace c12:=Bool.eq_false_iff.mpr c12
  subst c12
  rw [ynf] at H
  have H' := zm H
  clear H
  go_wp2
  go_loopg [5] kj2 (fun kq v5 w' => ∃ (ag : Int),v5=.int .i64 ag∧Aside0 (w13_great.l0 kq ag al ac aa=some r)∧Aside0 (kq≤kj2)∧Aside0 (w'.heap[aI]? = some (.cells #[.bool al,(.slice au ac.length av),(.slice aC aa.length aD)] 25 (0,0)))∧Aside0 (Below w.heap.size w w'))
  case atStart=>exact ⟨(0),yq,H',⟨Nat.le_refl _⟩,⟨yk ae⟩,⟨yhb⟩⟩
  case round =>
   clear H'
   obtain ⟨ag,rfl,HA,HK2,ae,HB⟩:=hrel
   obtain ⟨k2,rfl⟩:=ysu gk (fun h=>by subst h;exact absurd HA.out (by simp [w13_great.l0]))
   have H:=HA.out;clear HA
   simp only [w13_great.l0] at H
   by_cases c13 : ag < (aa.length : Int)
   ·
    rw [if_pos c13] at H
    have aQ:=yD c13
    clear c13
    obtain ⟨c14,H⟩:=yif H
    have aX : decide (0≤ag)=true:=decide_eq_true c14
    clear c14
    obtain ⟨aJ,A15,H⟩:=ybi H
    by_cases c16 : aJ=true
    ·
     subst c16
     rw [if_pos rfl] at H
     obtain rfl:=Option.some.inj H
     obtain ⟨_,_,_,_,_,_⟩:=yc3 ae
     have aw : 0≤(ag : Int):=yt
     have ax : ag < (aa.length : Int):=yt
     obtain ⟨aT,ay,az,aN,ai,aj,ak⟩:=at_L2 aH.out ag aw ax
     cases aN
     replace ai:=yhx HB ai
     have ap:=zm ak;have aq:=zm aj;clear ak aj
     replace aw:=eq_true aw
     replace ax:=eq_true ax
     go_wp2_with (first|((with_reducible refine gate_callee (f:=19) rfl ?_);refine ygl 31 Try.func19 #[.slice ay (rd_L2 aa ag).length az] ?_;(with_reducible refine (w13_wide.calls k2 _ _ (rd_L2 aa ag) true _ ?af aq.out A15.out).mono ?_);(case af=>exact ycb ap);rintro e w' ⟨rfl,⟨nd,rfl⟩⟩;refine ⟨_,rfl, ?_⟩))
     go_ret
     exact ⟨ye,yhb⟩
    replace c16:=Bool.eq_false_iff.mpr c16
    subst c16
    rw [ynf] at H
    have H' := zm H
    clear H
    obtain ⟨_,_,_,_,_,_⟩:=yc3 ae
    have aw : 0≤(ag : Int):=yt
    have ax : ag < (aa.length : Int):=yt
    obtain ⟨aT,ay,az,aN,ai,aj,ak⟩:=at_L2 aH.out ag aw ax
    cases aN
    replace ai:=yhx HB ai
    have ap:=zm ak;have aq:=zm aj;clear ak aj
    replace aw:=eq_true aw
    replace ax:=eq_true ax
    go_wp2_with (first|((with_reducible refine gate_callee (f:=19) rfl ?_);refine ygl 31 Try.func19 #[.slice ay (rd_L2 aa ag).length az] ?_;(with_reducible refine (w13_wide.calls k2 _ _ (rd_L2 aa ag) false _ ?af aq.out A15.out).mono ?_);(case af=>exact ycb ap);rintro e w' ⟨rfl,⟨nd,rfl⟩⟩;refine ⟨_,rfl, ?_⟩))
    go_roundg k2
    case measure=>exact yom2 HJ2 HK2
    case rel=>exact ⟨(wrap64 (ag+1)),yq,H',⟨yom2 HJ2 HK2⟩,⟨yk ae⟩,⟨yhb⟩⟩
   rw [if_neg c13] at H
   have aQ:=yG c13
   clear c13
   obtain rfl:=Option.some.inj H
   obtain ⟨_,_,_,_,_,_⟩:=yc3 ae
   go_wp2
   go_ret
   exact ⟨ye,yhb⟩
def r06_Same.l0 : Nat→List Int→List Int→Int→Option (Bool)
 | 0,_,_,_=>none
 | k+1,x0,x1,x5=>if x5 < (x0.length : Int) then (if 0≤x5 then (if x5 < (x1.length : Int) then (if (rd x0 x5)=(rd x1 x5) then (r06_Same.l0 k x0 x1 (wrap64 (x5+1))) else (some false)) else (none)) else (none)) else (some true)
def r06_Same.f (k : Nat) (l0 : List Int) (l1 : List Int) : Option (Bool):=if (l0.length : Int)=(l1.length : Int) then (r06_Same.l0 k l0 l1 0) else (some false)
theorem r06_Same.mono_l : ∀ k,(∀ y0 y1 y2,LeO (r06_Same.l0 k y0 y1 y2) (r06_Same.l0 (k+1) y0 y1 y2))
 | 0=>fun _ _ _ r h=>by simp [r06_Same.l0] at h
 | k+1=>by
  have ih0:=r06_Same.mono_l k
  ·
   intro y0 y1 y2
   unfold r06_Same.l0
   repeat' with_reducible first|apply ih0|apply yLr|apply yLn|apply yLi|apply yLb|intro _
theorem r06_Same.mono : ∀ a0 a1 k,LeO (r06_Same.f k a0 a1) (r06_Same.f (k+1) a0 a1):=by
 intro a0 a1 k
 have ih0:=r06_Same.mono_l k
 unfold r06_Same.f
 repeat' with_reducible first|apply ih0|apply yLr|apply yLn|apply yLi|apply yLb|intro _
set_option maxHeartbeats 8000000 in
set_option maxRecDepth 100000 in
theorem r06_Same.calls (k : Nat) (A0 : Option Addr) (c0 : Nat) (l0 : List Int) (A1 : Option Addr) (c1 : Nat) (l1 : List Int) (r : Bool) (w : World) (hr0 : Kd.C (Kd.int .i64) w A0 l0.length l0) (hc0 : l0.length≤c0) (hr1 : Kd.C (Kd.int .i64) w A1 l1.length l1) (hc1 : l1.length≤c1) (h : r06_Same.f k l0 l1=some r) :
  Calls Try.prog 61 #[.slice A0 l0.length c0, .slice A1 l1.length c1] w fun e w' => e=.returned (.bool r)∧Drawn0 w w' := by
 have HR0:=zm hr0;have HC0:=zm hc0;clear hr0 hc0;have HR1:=zm hr1;have HC1:=zm hc1;clear hr1 hc1;have H:=h
 unfold r06_Same.f at H
 clear h
 by_cases c3 : (l0.length : Int)=(l1.length : Int)
 ·
  rw [if_pos c3] at H
  obtain ⟨ah,ai⟩:=yE c3
  have aj : (l0.length == l1.length)=true:=by first|simpa using c3|(simp at c3 ⊢; omega)
  clear c3
  have H' := zm H
  clear H
  go_enter Try.func61,Try.ntmps61
  go_wp2
  repeat (go_quiet (fail);try go_wp2)
  go_loopg [5] k (fun kq v5 w' => ∃ (aa : Int),v5=.int .i64 aa∧Aside0 (r06_Same.l0 kq l0 l1 aa=some r)∧Aside0 (kq≤k)∧Drawn0 w w')
  case atStart=>exact ⟨(0),yq,H',⟨Nat.le_refl _⟩,yd⟩
  case round =>
   clear H'
   try clear c1
   try clear ah
   try clear ai
   try clear aj
   obtain ⟨aa,rfl,HA,HK1,⟨m1,rfl⟩⟩:=hrel
   obtain ⟨k1,rfl⟩:=ysu gk (fun h=>by subst h;exact absurd HA.out (by simp [r06_Same.l0]))
   have H:=HA.out;clear HA
   simp only [r06_Same.l0] at H
   by_cases c4 : aa < (l0.length : Int)
   ·
    rw [if_pos c4] at H
    have am:=yD c4
    clear c4
    obtain ⟨c5,H⟩:=yif H
    have ax : decide (0≤aa)=true:=decide_eq_true c5
    clear c5
    obtain ⟨c6,H⟩:=yif H
    have ay : decide (aa < (l1.length : Int))=true:=decide_eq_true c6
    clear c6
    by_cases c7 : (rd l0 aa)=(rd l1 aa)
    ·
     rw [if_pos c7] at H
     obtain ⟨ao,ap⟩:=yE c7
     clear c7
     have H' := zm H
     clear H
     obtain ⟨ak,af,ac,aq,au⟩:=yai HR0 aa
     cases af
     obtain ⟨al,ag,ae,av,aw⟩:=yai HR1 aa
     cases ag
     go_wp2
     repeat (go_quiet (fail);try go_wp2)
     go_roundg k1
     case measure=>exact yom1 HK1
     case rel=>exact ⟨(wrap64 (aa+1)),yq,H',⟨yom1 HK1⟩,yd⟩
    rw [if_neg c7] at H
    obtain ⟨ao,ap⟩:=yF c7
    obtain rfl:=Option.some.inj H
    obtain ⟨ak,af,ac,aq,au⟩:=yai HR0 aa
    cases af
    obtain ⟨al,ag,ae,av,aw⟩:=yai HR1 aa
    cases ag
    go_wp2
    repeat (go_quiet (fail);try go_wp2)
    go_ret
    exact ⟨yq,yd⟩
   rw [if_neg c4] at H
   have am:=yG c4
   clear c4
   obtain rfl:=Option.some.inj H
   go_wp2
   repeat (go_quiet (fail);try go_wp2)
   go_ret
   exact ⟨yq,yd⟩
 rw [if_neg c3] at H
 obtain ⟨ah,ai⟩:=yF c3
 have aj : (l0.length == l1.length)=false:=by first|simpa using c3|(simp at c3 ⊢; omega)
 obtain rfl:=Option.some.inj H
 go_enter Try.func61,Try.ntmps61
 go_wp2
 repeat (go_quiet (fail);try go_wp2)
 go_ret
 exact ⟨yq,yd⟩
def r12_Same.l0 : Nat→List (List Int)→List (List Int)→Int→Option (Bool)
 | 0,_,_,_=>none
 | k+1,x0,x1,x5=>if x5 < (x0.length : Int) then (if 0≤x5 then (if x5 < (x1.length : Int) then ((r06_Same.f k (rd_L1 x0 x5) (rd_L1 x1 x5)).bind fun ax=>(if ax=true then (r12_Same.l0 k x0 x1 (wrap64 (x5+1))) else (some false))) else (none)) else (none)) else (some true)
def r12_Same.f (k : Nat) (l0 : List (List Int)) (l1 : List (List Int)) : Option (Bool):=if (l0.length : Int)=(l1.length : Int) then (r12_Same.l0 k l0 l1 0) else (some false)
theorem r12_Same.mono_l : ∀ k,(∀ y0 y1 y2,LeO (r12_Same.l0 k y0 y1 y2) (r12_Same.l0 (k+1) y0 y1 y2))
 | 0=>fun _ _ _ r h=>by simp [r12_Same.l0] at h
 | k+1=>by
  have ih0:=r12_Same.mono_l k
  ·
   intro y0 y1 y2
   unfold r12_Same.l0
   repeat' with_reducible first|apply ih0|apply r06_Same.mono|apply yLr|apply yLn|apply yLi|apply yLb|intro _
theorem r12_Same.mono : ∀ a0 a1 k,LeO (r12_Same.f k a0 a1) (r12_Same.f (k+1) a0 a1):=by
 intro a0 a1 k
 have ih0:=r12_Same.mono_l k
 unfold r12_Same.f
 repeat' with_reducible first|apply ih0|apply r06_Same.mono|apply yLr|apply yLn|apply yLi|apply yLb|intro _
set_option maxHeartbeats 8000000 in
set_option maxRecDepth 100000 in
theorem r12_Same.calls (k : Nat) (A0 : Option Addr) (c0 : Nat) (l0 : List (List Int)) (A1 : Option Addr) (c1 : Nat) (l1 : List (List Int)) (r : Bool) (w : World) (hr0 : Kd.C (Kd.slice 3 (Kd.int .i64)) w A0 l0.length l0) (hc0 : l0.length≤c0) (hr1 : Kd.C (Kd.slice 3 (Kd.int .i64)) w A1 l1.length l1) (hc1 : l1.length≤c1) (h : r12_Same.f k l0 l1=some r) :
  Calls Try.prog 24 #[.slice A0 l0.length c0, .slice A1 l1.length c1] w fun e w' => e=.returned (.bool r)∧Drawn0 w w' := by
 have HR0:=zm hr0;have HC0:=zm hc0;clear hr0 hc0;have HR1:=zm hr1;have HC1:=zm hc1;clear hr1 hc1;have H:=h
 unfold r12_Same.f at H
 clear h
 by_cases c3 : (l0.length : Int)=(l1.length : Int)
 ·
  rw [if_pos c3] at H
  obtain ⟨aG,aH⟩:=yE c3
  have aI : (l0.length == l1.length)=true:=by first|simpa using c3|(simp at c3 ⊢; omega)
  clear c3
  have H' := zm H
  clear H
  go_enter Try.func24,Try.ntmps24
  go_wp2
  repeat (go_quiet (fail);try go_wp2)
  go_loopg [5] k (fun kq v5 w' => ∃ (aa : Int),v5=.int .i64 aa∧Aside0 (r12_Same.l0 kq l0 l1 aa=some r)∧Aside0 (kq≤k)∧Drawn0 w w')
  case atStart=>exact ⟨(0),yq,H',⟨Nat.le_refl _⟩,yd⟩
  case round =>
   clear H'
   try clear c1
   try clear aG
   try clear aH
   try clear aI
   obtain ⟨aa,rfl,HA,HK1,⟨m1,rfl⟩⟩:=hrel
   obtain ⟨k1,rfl⟩:=ysu gk (fun h=>by subst h;exact absurd HA.out (by simp [r12_Same.l0]))
   have H:=HA.out;clear HA
   simp only [r12_Same.l0] at H
   by_cases c4 : aa < (l0.length : Int)
   ·
    rw [if_pos c4] at H
    have aM:=yD c4
    clear c4
    obtain ⟨c5,H⟩:=yif H
    have aN : decide (0≤aa)=true:=decide_eq_true c5
    clear c5
    obtain ⟨c6,H⟩:=yif H
    have aQ : decide (aa < (l1.length : Int))=true:=decide_eq_true c6
    clear c6
    obtain ⟨ax,A7,H⟩:=ybi H
    by_cases c8 : ax=true
    ·
     subst c8
     rw [if_pos rfl] at H
     have H' := zm H
     clear H
     have ao : 0≤(aa : Int):=yt
     have ap : aa < (l0.length : Int):=yt
     obtain ⟨aJ,ay,az,aA,av,aj,ak⟩:=at_L1 HR0.out aa ao ap
     cases aA
     have ac:=zm ak;have ae:=zm aj;clear ak aj
     replace ao:=eq_true ao
     replace ap:=eq_true ap
     have aq : 0≤(aa : Int):=yt
     have au : aa < (l1.length : Int):=yt
     obtain ⟨aK,aC,aD,aE,aw,al,am⟩:=at_L1 HR1.out aa aq au
     cases aE
     have af:=zm am;have ag:=zm al;clear am al
     replace aq:=eq_true aq
     replace au:=eq_true au
     go_wp2_with (first|(go_at_call 61;(with_reducible refine (r06_Same.calls k1 _ _ (rd_L1 l0 aa) _ _ (rd_L1 l1 aa) true _ ?ah ae.out ?ai ag.out A7.out).mono ?_);(case ah=>exact yce ac.out);(case ai=>exact yce af.out);rintro e w' ⟨rfl,⟨nd,rfl⟩⟩;(try exact yww)))
     repeat (go_quiet (first|(go_at_call 61;(with_reducible refine (r06_Same.calls k1 _ _ (rd_L1 l0 aa) _ _ (rd_L1 l1 aa) true _ ?ah ae.out ?ai ag.out A7.out).mono ?_);(case ah=>exact yce ac.out);(case ai=>exact yce af.out);rintro e w' ⟨rfl,⟨nd,rfl⟩⟩;(try exact yww)));try go_wp2_with (first|(go_at_call 61;(with_reducible refine (r06_Same.calls k1 _ _ (rd_L1 l0 aa) _ _ (rd_L1 l1 aa) true _ ?ah ae.out ?ai ag.out A7.out).mono ?_);(case ah=>exact yce ac.out);(case ai=>exact yce af.out);rintro e w' ⟨rfl,⟨nd,rfl⟩⟩;(try exact yww))))
     go_roundg k1
     case measure=>exact yom1 HK1
     case rel=>exact ⟨(wrap64 (aa+1)),yq,H',⟨yom1 HK1⟩,yd⟩
    replace c8:=Bool.eq_false_iff.mpr c8
    subst c8
    rw [ynf] at H
    obtain rfl:=Option.some.inj H
    have ao : 0≤(aa : Int):=yt
    have ap : aa < (l0.length : Int):=yt
    obtain ⟨aJ,ay,az,aA,av,aj,ak⟩:=at_L1 HR0.out aa ao ap
    cases aA
    have ac:=zm ak;have ae:=zm aj;clear ak aj
    replace ao:=eq_true ao
    replace ap:=eq_true ap
    have aq : 0≤(aa : Int):=yt
    have au : aa < (l1.length : Int):=yt
    obtain ⟨aK,aC,aD,aE,aw,al,am⟩:=at_L1 HR1.out aa aq au
    cases aE
    have af:=zm am;have ag:=zm al;clear am al
    replace aq:=eq_true aq
    replace au:=eq_true au
    go_wp2_with (first|(go_at_call 61;(with_reducible refine (r06_Same.calls k1 _ _ (rd_L1 l0 aa) _ _ (rd_L1 l1 aa) false _ ?ah ae.out ?ai ag.out A7.out).mono ?_);(case ah=>exact yce ac.out);(case ai=>exact yce af.out);rintro e w' ⟨rfl,⟨nd,rfl⟩⟩;(try exact yww)))
    repeat (go_quiet (first|(go_at_call 61;(with_reducible refine (r06_Same.calls k1 _ _ (rd_L1 l0 aa) _ _ (rd_L1 l1 aa) false _ ?ah ae.out ?ai ag.out A7.out).mono ?_);(case ah=>exact yce ac.out);(case ai=>exact yce af.out);rintro e w' ⟨rfl,⟨nd,rfl⟩⟩;(try exact yww)));try go_wp2_with (first|(go_at_call 61;(with_reducible refine (r06_Same.calls k1 _ _ (rd_L1 l0 aa) _ _ (rd_L1 l1 aa) false _ ?ah ae.out ?ai ag.out A7.out).mono ?_);(case ah=>exact yce ac.out);(case ai=>exact yce af.out);rintro e w' ⟨rfl,⟨nd,rfl⟩⟩;(try exact yww))))
    go_ret
    exact ⟨yq,yd⟩
   rw [if_neg c4] at H
   have aM:=yG c4
   clear c4
   obtain rfl:=Option.some.inj H
   go_wp2
   repeat (go_quiet (fail);try go_wp2)
   go_ret
   exact ⟨yq,yd⟩
 rw [if_neg c3] at H
 obtain ⟨aG,aH⟩:=yF c3
 have aI : (l0.length == l1.length)=false:=by first|simpa using c3|(simp at c3 ⊢; omega)
 obtain rfl:=Option.some.inj H
 go_enter Try.func24,Try.ntmps24
 go_wp2
 repeat (go_quiet (fail);try go_wp2)
 go_ret
 exact ⟨yq,yd⟩
mutual
def r13_Same.j0 : Nat→Bool→Bool→List (List Int)→List (List (List Int))→Bool→List (List Int)→List (List (List Int))→Option (Bool)
 | 0,_,_,_,_,_,_,_=>none
 | k+1,x27,aM,aN,ax,aQ,aT,ay=>if x27=true then (some false) else (r13_Same.l0 k 0 aM aN ax aQ aT ay)
def r13_Same.l0 : Nat→Int→Bool→List (List Int)→List (List (List Int))→Bool→List (List Int)→List (List (List Int))→Option (Bool)
 | 0,_,_,_,_,_,_,_=>none
 | k+1,x5,aM,aN,ax,aQ,aT,ay=>if x5 < (ax.length : Int) then (if 0≤x5 then (if x5 < (ay.length : Int) then ((r12_Same.f k (rd_L2 ax x5) (rd_L2 ay x5)).bind fun bo=>(if bo=true then (r13_Same.l0 k (wrap64 (x5+1)) aM aN ax aQ aT ay) else (some false))) else (none)) else (none)) else (some true)
end
def r13_Same.f (k : Nat) (am : Bool) (ak : List (List Int)) (ai : List (List (List Int))) (ao : Bool) (al : List (List Int)) (aj : List (List (List Int))) : Option (Bool):=if (am != ao)=true then (r13_Same.j0 k true am ak ai ao al aj) else ((r12_Same.f k ak al).bind fun bp=>(if bp=true then (r13_Same.j0 k ((ai.length : Int) != (aj.length : Int)) am ak ai ao al aj) else (r13_Same.j0 k true am ak ai ao al aj)))
theorem r13_Same.mono_l : ∀ k,(∀ y0 y1 y2 y3 y4 y5 y6,LeO (r13_Same.j0 k y0 y1 y2 y3 y4 y5 y6) (r13_Same.j0 (k+1) y0 y1 y2 y3 y4 y5 y6))∧(∀ y0 y1 y2 y3 y4 y5 y6,LeO (r13_Same.l0 k y0 y1 y2 y3 y4 y5 y6) (r13_Same.l0 (k+1) y0 y1 y2 y3 y4 y5 y6))
 | 0=>⟨fun _ _ _ _ _ _ _ r h=>by simp [r13_Same.j0] at h,fun _ _ _ _ _ _ _ r h=>by simp [r13_Same.l0] at h⟩
 | k+1=>by
  obtain ⟨ih0,ih1⟩:=r13_Same.mono_l k
  refine ⟨?_, ?_⟩
  ·
   intro y0 y1 y2 y3 y4 y5 y6
   unfold r13_Same.j0
   repeat' with_reducible first|apply ih0|apply ih1|apply r12_Same.mono|apply yLr|apply yLn|apply yLi|apply yLb|intro _
  intro y0 y1 y2 y3 y4 y5 y6
  unfold r13_Same.l0
  repeat' with_reducible first|apply ih0|apply ih1|apply r12_Same.mono|apply yLr|apply yLn|apply yLi|apply yLb|intro _
theorem r13_Same.mono : ∀ a0 a1 a2 a3 a4 a5 k,LeO (r13_Same.f k a0 a1 a2 a3 a4 a5) (r13_Same.f (k+1) a0 a1 a2 a3 a4 a5):=by
 intro a0 a1 a2 a3 a4 a5 k
 obtain ⟨ih0,ih1⟩:=r13_Same.mono_l k
 unfold r13_Same.f
 repeat' with_reducible first|apply ih0|apply ih1|apply r12_Same.mono|apply yLr|apply yLn|apply yLi|apply yLb|intro _
set_option maxHeartbeats 8000000 in
set_option maxRecDepth 100000 in
theorem r13_Same.calls (k : Nat) (am : Bool) (aU : Option Addr) (aV : Nat) (ak : List (List Int)) (aW : Option Addr) (aX : Nat) (ai : List (List (List Int))) (ao : Bool) (aY : Option Addr) (aZ : Nat) (al : List (List Int)) (a7 : Option Addr) (a8 : Nat) (aj : List (List (List Int))) (r : Bool) (w : World) (hr0_1 : Kd.C (Kd.slice 3 (Kd.int .i64)) w aU ak.length ak) (hc0_1 : ak.length≤aV) (hr0_2 : Kd.C (Kd.slice 49 (Kd.slice 3 (Kd.int .i64))) w aW ai.length ai) (hc0_2 : ai.length≤aX) (hr1_1 : Kd.C (Kd.slice 3 (Kd.int .i64)) w aY al.length al) (hc1_1 : al.length≤aZ) (hr1_2 : Kd.C (Kd.slice 49 (Kd.slice 3 (Kd.int .i64))) w a7 aj.length aj) (hc1_2 : aj.length≤a8) (h : r13_Same.f k am ak ai ao al aj=some r) :
  Calls Try.prog 22 #[.agg #[.bool am, .slice aU ak.length aV, .slice aW ai.length aX], .agg #[.bool ao, .slice aY al.length aZ, .slice a7 aj.length a8]] w fun e w' => e=.returned (.bool r)∧Below w.heap.size w w' := by
 have hu33:=Try.underlying33;have aH:=zm hr0_1;have aI:=zm hc0_1;clear hr0_1 hc0_1;have bi:=zm hr0_2;have bD:=zm hc0_2;clear hr0_2 hc0_2;have aJ:=zm hr1_1;have aK:=zm hc1_1;clear hr1_1 hc1_1;have bj:=zm hr1_2;have bE:=zm hc1_2;clear hr1_2 hc1_2;have HB:=zm (Below.refl w.heap.size w);have H:=h
 unfold r13_Same.f at H
 clear h;have HC3:=zm H;clear H
 go_enter Try.func22,Try.ntmps22
 go_upto_region 1 with (first|((with_reducible refine gate_dst (N:=2) rfl ?_);(try (refine gate_guard (by rfl) ?_;dsimp only));refine ybx 2 #[.bool am, .slice aU ak.length aV, .slice aW ai.length aX] 33 ?_;intro bd hg w4 hbox hb;have aa:=zm (hbox);have bk:=ygw hg;have bl:=ygw hg;replace HB:=ybs hb;clear hb hbox hg)|((with_reducible refine gate_dst (N:=3) rfl ?_);(try (refine gate_guard (by rfl) ?_;dsimp only));refine ybx 3 #[.bool ao, .slice aY al.length aZ, .slice a7 aj.length a8] 33 ?_;intro bf hg w5 hbox hb;have ap:=zm (hbox);have bm:=ygw hg;have bn:=ygw hg;replace HB:=ybs hb;have ag:=ynl aa hg;have ah:=yng aa hg;replace aa:=ybb aa hb;clear hb hbox hg))
 repeat (go_quiet (first|((with_reducible refine gate_dst (N:=2) rfl ?_);(try (refine gate_guard (by rfl) ?_;dsimp only));refine ybx 2 #[.bool am, .slice aU ak.length aV, .slice aW ai.length aX] 33 ?_;intro bd hg w4 hbox hb;have aa:=zm (hbox);have bk:=ygw hg;have bl:=ygw hg;replace HB:=ybs hb;clear hb hbox hg)|((with_reducible refine gate_dst (N:=3) rfl ?_);(try (refine gate_guard (by rfl) ?_;dsimp only));refine ybx 3 #[.bool ao, .slice aY al.length aZ, .slice a7 aj.length a8] 33 ?_;intro bf hg w5 hbox hb;have ap:=zm (hbox);have bm:=ygw hg;have bn:=ygw hg;replace HB:=ybs hb;have ag:=ynl aa hg;have ah:=yng aa hg;replace aa:=ybb aa hb;clear hb hbox hg));go_upto_region 1 with (first|((with_reducible refine gate_dst (N:=2) rfl ?_);(try (refine gate_guard (by rfl) ?_;dsimp only));refine ybx 2 #[.bool am, .slice aU ak.length aV, .slice aW ai.length aX] 33 ?_;intro bd hg w4 hbox hb;have aa:=zm (hbox);have bk:=ygw hg;have bl:=ygw hg;replace HB:=ybs hb;clear hb hbox hg)|((with_reducible refine gate_dst (N:=3) rfl ?_);(try (refine gate_guard (by rfl) ?_;dsimp only));refine ybx 3 #[.bool ao, .slice aY al.length aZ, .slice a7 aj.length a8] 33 ?_;intro bf hg w5 hbox hb;have ap:=zm (hbox);have bm:=ygw hg;have bn:=ygw hg;replace HB:=ybs hb;have ag:=ynl aa hg;have ah:=yng aa hg;replace aa:=ybb aa hb;clear hb hbox hg)))
 (try simp only [Act.put,List.setIfInBounds_toArray,List.set_cons_zero,List.set_cons_succ])
 go_cut [27] (fun v27 wc => ∃ (kq : Nat) (bg : Bool),v27=.bool bg∧Aside0 (r13_Same.j0 kq bg am ak ai ao al aj=some r)∧Aside0 (kq≤k)∧Aside0 (wc.heap[bd]? = some (.cells #[.bool am,(.slice aU ak.length aV),(.slice aW ai.length aX)] 33 (0,0)))∧Aside0 (wc.heap[bf]? = some (.cells #[.bool ao,(.slice aY al.length aZ),(.slice a7 aj.length a8)] 33 (0,0)))∧Aside0 (Below w.heap.size w wc))
 case first =>
  have H:=HC3.out;clear HC3
  by_cases c6 : (am != ao)=true
  ·
   rw [if_pos c6] at H
   have bh : (am != ao)=true:=c6
   (try (have bB : decide (am=ao)=false:=by simpa using c6))
   (try (have bC : (am == ao)=false:=by simpa using c6))
   (try (have bH : ¬ (am=ao):=by simpa using c6))
   clear c6
   (first|rw [bh]|(simp only [i64_w,i32_w];rw [bh])|skip)
   have H' := zm H
   clear H
   have:=ag.out
   have:=ah.out
   obtain ⟨_,_,_,_,_,_⟩:=yc3 aa
   obtain ⟨_,_,_,_,_,_⟩:=yc3 ap
   go_wp2
   repeat (go_quiet (fail);try go_wp2)
   go_meet
   case rel=>exact ⟨_,(true),yq,H',⟨yo⟩,⟨yk aa⟩,⟨yk ap⟩,⟨yhb⟩⟩
  rw [if_neg c6] at H
  have bh : (am != ao)=false:=by simpa using c6
  (try (have bB : decide (am=ao)=true:=by simpa using c6))
  (try (have bC : (am == ao)=true:=by simpa using c6))
  clear c6
  (first|rw [bh]|(simp only [i64_w,i32_w];rw [bh])|skip)
  obtain ⟨bp,A10,H⟩:=ybi H
  by_cases c11 : bp=true
  ·
   subst c11
   rw [if_pos rfl] at H
   have H' := zm H
   clear H
   have:=ag.out
   have:=ah.out
   obtain ⟨_,_,_,_,_,_⟩:=yc3 aa
   obtain ⟨_,_,_,_,_,_⟩:=yc3 ap
   go_wp2_with (first|(go_at_call 24;(with_reducible refine (r12_Same.calls k _ _ ak _ _ al true _ ?ac aI.out ?ae aK.out A10.out).mono ?_);(case ac=>exact ycb aH);(case ae=>exact ycb aJ);rintro e w' ⟨rfl,⟨nd,rfl⟩⟩;(try exact yww)))
   repeat (go_quiet (first|(go_at_call 24;(with_reducible refine (r12_Same.calls k _ _ ak _ _ al true _ ?ac aI.out ?ae aK.out A10.out).mono ?_);(case ac=>exact ycb aH);(case ae=>exact ycb aJ);rintro e w' ⟨rfl,⟨nd,rfl⟩⟩;(try exact yww)));try go_wp2_with (first|(go_at_call 24;(with_reducible refine (r12_Same.calls k _ _ ak _ _ al true _ ?ac aI.out ?ae aK.out A10.out).mono ?_);(case ac=>exact ycb aH);(case ae=>exact ycb aJ);rintro e w' ⟨rfl,⟨nd,rfl⟩⟩;(try exact yww))))
   go_meet
   case rel=>exact ⟨_,(((ai.length : Int) != (aj.length : Int))),yq,H',⟨yo⟩,⟨yk aa⟩,⟨yk ap⟩,⟨yhb⟩⟩
  replace c11:=Bool.eq_false_iff.mpr c11
  subst c11
  rw [ynf] at H
  have H' := zm H
  clear H
  have:=ag.out
  have:=ah.out
  obtain ⟨_,_,_,_,_,_⟩:=yc3 aa
  obtain ⟨_,_,_,_,_,_⟩:=yc3 ap
  go_wp2_with (first|(go_at_call 24;(with_reducible refine (r12_Same.calls k _ _ ak _ _ al false _ ?ac aI.out ?ae aK.out A10.out).mono ?_);(case ac=>exact ycb aH);(case ae=>exact ycb aJ);rintro e w' ⟨rfl,⟨nd,rfl⟩⟩;(try exact yww)))
  repeat (go_quiet (first|(go_at_call 24;(with_reducible refine (r12_Same.calls k _ _ ak _ _ al false _ ?ac aI.out ?ae aK.out A10.out).mono ?_);(case ac=>exact ycb aH);(case ae=>exact ycb aJ);rintro e w' ⟨rfl,⟨nd,rfl⟩⟩;(try exact yww)));try go_wp2_with (first|(go_at_call 24;(with_reducible refine (r12_Same.calls k _ _ ak _ _ al false _ ?ac aI.out ?ae aK.out A10.out).mono ?_);(case ac=>exact ycb aH);(case ae=>exact ycb aJ);rintro e w' ⟨rfl,⟨nd,rfl⟩⟩;(try exact yww))))
  go_meet
  case rel=>exact ⟨_,(true),yq,H',⟨yo⟩,⟨yk aa⟩,⟨yk ap⟩,⟨yhb⟩⟩
 case rest =>
  clear HC3
  obtain ⟨kq,bg,rfl,HA,HJ2,aa,ap,HB⟩:=hcut
  obtain ⟨kj2,rfl⟩:=ysu kq (fun h=>by subst h;exact absurd HA.out (by simp [r13_Same.j0]))
  have H:=HA.out;clear HA
  simp only [r13_Same.j0] at H
  by_cases c18 : bg=true
  ·
   subst c18
   rw [if_pos rfl] at H
   obtain rfl:=Option.some.inj H
   go_wp2
   repeat (go_quiet (fail);try go_wp2)
   go_ret
   exact ⟨ye,yhb⟩
  replace c18:=Bool.eq_false_iff.mpr c18
  subst c18
  rw [ynf] at H
  have H' := zm H
  clear H
  go_wp2
  repeat (go_quiet (fail);try go_wp2)
  go_loopg [5] kj2 (fun kq v5 w' => ∃ (af : Int),v5=.int .i64 af∧Aside0 (r13_Same.l0 kq af am ak ai ao al aj=some r)∧Aside0 (kq≤kj2)∧Aside0 (w'.heap[bd]? = some (.cells #[.bool am,(.slice aU ak.length aV),(.slice aW ai.length aX)] 33 (0,0)))∧Aside0 (w'.heap[bf]? = some (.cells #[.bool ao,(.slice aY al.length aZ),(.slice a7 aj.length a8)] 33 (0,0)))∧Aside0 (Below w.heap.size w w'))
  case atStart=>exact ⟨(0),yq,H',⟨Nat.le_refl _⟩,⟨yk aa⟩,⟨yk ap⟩,⟨yhb⟩⟩
  case round =>
   clear H'
   obtain ⟨af,rfl,HA,HK2,aa,ap,HB⟩:=hrel
   obtain ⟨k2,rfl⟩:=ysu gk (fun h=>by subst h;exact absurd HA.out (by simp [r13_Same.l0]))
   have H:=HA.out;clear HA
   simp only [r13_Same.l0] at H
   by_cases c19 : af < (ai.length : Int)
   ·
    rw [if_pos c19] at H
    have bx:=yD c19
    clear c19
    obtain ⟨c20,H⟩:=yif H
    have bF : decide (0≤af)=true:=decide_eq_true c20
    clear c20
    obtain ⟨c21,H⟩:=yif H
    have bG : decide (af < (aj.length : Int))=true:=decide_eq_true c21
    clear c21
    obtain ⟨bo,A22,H⟩:=ybi H
    by_cases c23 : bo=true
    ·
     subst c23
     rw [if_pos rfl] at H
     have H' := zm H
     clear H
     have:=ag.out
     have:=ah.out
     obtain ⟨_,_,_,_,_,_⟩:=yc3 aa
     have a9 : 0≤(af : Int):=yt
     have ba : af < (ai.length : Int):=yt
     obtain ⟨bz,bq,br,bs,az,aA,aC⟩:=at_L2 bi.out af a9 ba
     cases bs
     replace az:=yhx HB az
     have aq:=zm aC;have au:=zm aA;clear aC aA
     replace a9:=eq_true a9
     replace ba:=eq_true ba
     obtain ⟨_,_,_,_,_,_⟩:=yc3 ap
     have bb : 0≤(af : Int):=yt
     have bc : af < (aj.length : Int):=yt
     obtain ⟨bA,bu,bv,bw,aD,aE,aG⟩:=at_L2 bj.out af bb bc
     cases bw
     replace aD:=yhx HB aD
     have av:=zm aG;have aw:=zm aE;clear aG aE
     replace bb:=eq_true bb
     replace bc:=eq_true bc
     go_wp2_with (first|(go_at_call 24;(with_reducible refine (r12_Same.calls k2 _ _ (rd_L2 ai af) _ _ (rd_L2 aj af) true _ ?ac au.out ?ae aw.out A22.out).mono ?_);(case ac=>exact ycb aq);(case ae=>exact ycb av);rintro e w' ⟨rfl,⟨nd,rfl⟩⟩;(try exact yww)))
     repeat (go_quiet (first|(go_at_call 24;(with_reducible refine (r12_Same.calls k2 _ _ (rd_L2 ai af) _ _ (rd_L2 aj af) true _ ?ac au.out ?ae aw.out A22.out).mono ?_);(case ac=>exact ycb aq);(case ae=>exact ycb av);rintro e w' ⟨rfl,⟨nd,rfl⟩⟩;(try exact yww)));try go_wp2_with (first|(go_at_call 24;(with_reducible refine (r12_Same.calls k2 _ _ (rd_L2 ai af) _ _ (rd_L2 aj af) true _ ?ac au.out ?ae aw.out A22.out).mono ?_);(case ac=>exact ycb aq);(case ae=>exact ycb av);rintro e w' ⟨rfl,⟨nd,rfl⟩⟩;(try exact yww))))
     go_roundg k2
     case measure=>exact yom2 HJ2 HK2
     case rel=>exact ⟨(wrap64 (af+1)),yq,H',⟨yom2 HJ2 HK2⟩,⟨yk aa⟩,⟨yk ap⟩,⟨yhb⟩⟩
    replace c23:=Bool.eq_false_iff.mpr c23
    subst c23
    rw [ynf] at H
    obtain rfl:=Option.some.inj H
    have:=ag.out
    have:=ah.out
    obtain ⟨_,_,_,_,_,_⟩:=yc3 aa
    have a9 : 0≤(af : Int):=yt
    have ba : af < (ai.length : Int):=yt
    obtain ⟨bz,bq,br,bs,az,aA,aC⟩:=at_L2 bi.out af a9 ba
    cases bs
    replace az:=yhx HB az
    have aq:=zm aC;have au:=zm aA;clear aC aA
    replace a9:=eq_true a9
    replace ba:=eq_true ba
    obtain ⟨_,_,_,_,_,_⟩:=yc3 ap
    have bb : 0≤(af : Int):=yt
    have bc : af < (aj.length : Int):=yt
    obtain ⟨bA,bu,bv,bw,aD,aE,aG⟩:=at_L2 bj.out af bb bc
    cases bw
    replace aD:=yhx HB aD
    have av:=zm aG;have aw:=zm aE;clear aG aE
    replace bb:=eq_true bb
    replace bc:=eq_true bc
    go_wp2_with (first|(go_at_call 24;(with_reducible refine (r12_Same.calls k2 _ _ (rd_L2 ai af) _ _ (rd_L2 aj af) false _ ?ac au.out ?ae aw.out A22.out).mono ?_);(case ac=>exact ycb aq);(case ae=>exact ycb av);rintro e w' ⟨rfl,⟨nd,rfl⟩⟩;(try exact yww)))
    repeat (go_quiet (first|(go_at_call 24;(with_reducible refine (r12_Same.calls k2 _ _ (rd_L2 ai af) _ _ (rd_L2 aj af) false _ ?ac au.out ?ae aw.out A22.out).mono ?_);(case ac=>exact ycb aq);(case ae=>exact ycb av);rintro e w' ⟨rfl,⟨nd,rfl⟩⟩;(try exact yww)));try go_wp2_with (first|(go_at_call 24;(with_reducible refine (r12_Same.calls k2 _ _ (rd_L2 ai af) _ _ (rd_L2 aj af) false _ ?ac au.out ?ae aw.out A22.out).mono ?_);(case ac=>exact ycb aq);(case ae=>exact ycb av);rintro e w' ⟨rfl,⟨nd,rfl⟩⟩;(try exact yww))))
    go_ret
    exact ⟨ye,yhb⟩
   rw [if_neg c19] at H
   have bx:=yG c19
   clear c19
   obtain rfl:=Option.some.inj H
   have:=ag.out
   have:=ah.out
   obtain ⟨_,_,_,_,_,_⟩:=yc3 aa
   go_wp2
   repeat (go_quiet (fail);try go_wp2)
   go_ret
   exact ⟨ye,yhb⟩
def w13_knows.f (k : Nat)  : Option (Bool):=(some (([(([0,0,0,0,0] : List Int))] : List (List Int)) : List (List Int))).bind fun af=>((some (([(([(([0] : List Int)),(([0] : List Int)),(([0,0] : List Int)),(([0,0,0,0] : List Int)),(([0,0,0,0,0,0,0,0] : List Int))] : List (List Int)))] : List (List (List Int))) : List (List (List Int)))).bind fun ac=>((cpack_Write.f k 11 1 true af ac ([] : List (List Int))).bind fun au=>((cpack_Read.f k 11 1 au.1 ([] : List (List Int))).bind fun ak=>((cpack_Read.f k 11 1 (List.replicate 11 0) (([(([9,2,3,4,5] : List Int))] : List (List Int)))).bind fun ah=>(if (au.1.length : Int)=11 then (if au.2=0 then ((w13_As.f ak.1 ak.2.1 ak.2.2.1).bind fun ai=>((w13_As.f true af ac).bind fun aj=>((r13_Same.f k ai.1 ai.2.1 ai.2.2 aj.1 aj.2.1 aj.2.2).bind fun a8=>(if a8=true then (if ak.2.2.2=0 then (if ah.1=true then (none) else ((r12_Same.f k ah.2.1 (([(([6,0,0,1,2] : List Int))] : List (List Int)))).bind fun aU=>(if aU=true then (if ah.2.2.2=0 then ((cpack_Right.f k 11 1 true af ac).bind fun aQ=>(some aQ)) else (none)) else (none)))) else (none)) else (none))))) else (none)) else (none))))))
theorem w13_knows.mono : ∀ k,LeO (w13_knows.f k ) (w13_knows.f (k+1) ):=by
 intro  k
 unfold w13_knows.f
 repeat' with_reducible first|apply cpack_Read.mono|apply cpack_Right.mono|apply cpack_Write.mono|apply r12_Same.mono|apply r13_Same.mono|apply yLr|apply yLn|apply yLi|apply yLb|intro _
def w13_knows.T5 : Bool × List (List Nat × List Nat):=(true, [([], []),([0], [0]),([1], [1]),([2], [2]),([3], [3]),([4,3], [3,4]),([3,5], [3,5]),([6,3], [6]),([7], [7]),([8,7,7], [7,8]),([7], [7]),([10,9,7], [7,10]),([9,11,11,7], [7,9,11]),([7,12], [7,12]),([13,12], [13]),([14], [14]),([15,14], [14,15]),([14,16], [14,16]),([17,14], [17]),([18], [18]),([19,18], [18,19]),([20,18], [18,20]),([18,21], [18,21]),([22,18], [22]),([23], [23]),([24,23], [23,24]),([23], [23]),([26,23], [23,26]),([25,27,23,23], [23,25,27]),([23,28], [23,28]),([29,28], [29]),([30], [30]),([31,30], [30,31]),([30,32], [30,32]),([33,30], [33]),([34], [34]),([35,34,34], [34,35]),([34,36], [34,36]),([37,36,0,1,2,3,4,5,6,7,8,9,10,11,12,13,14,15,16,17,18,19,20,21,22,23,24,25,26,27,28,29,30,31,32,33,34,35,36,37], [37])])
def w13_knows.B5 : List Nat := [0,1,3,7,15,31,63,127,255,511,255,2047,4095,8191,16383,32767,65535,131071,262143,524287,1048575,2097151,4194303,8388607,16777215,33554431,16777215,83886079,268435455,536870911,1073741823,2147483647,4294967295,8589934591,17179869183,34359738367,68719476735,137438953471,274877906943]
theorem w13_knows.tab5 : rtab .any (opsOf Try.f11 5)=w13_knows.T5:=by kernel_rfl
theorem w13_knows.bits5 : waitsOk w13_knows.T5.2 w13_knows.B5=true:=by kernel_rfl
set_option maxHeartbeats 8000000 in
set_option maxRecDepth 100000 in
theorem w13_knows.calls (k : Nat)  (r : Bool) (w : World) (h : w13_knows.f k  = some r) :
  Calls Try.prog 11 #[] w fun e w' => e=.returned (.bool r)∧Below w.heap.size w w' := by
 have hu25:=Try.underlying25;have HB:=zm (Below.refl w.heap.size w);have H:=h
 unfold w13_knows.f at H
 clear h
 obtain ⟨bN,ce⟩ : ∃ y_ : List Int,y_=(([0,0,0,0,0] : List Int)):=⟨_,rfl⟩
 replace H : ((some (([bN] : List (List Int)) : List (List Int))).bind fun af=>((some (([(([(([0] : List Int)),(([0] : List Int)),(([0,0] : List Int)),(([0,0,0,0] : List Int)),(([0,0,0,0,0,0,0,0] : List Int))] : List (List Int)))] : List (List (List Int))) : List (List (List Int)))).bind fun ac=>((cpack_Write.f k 11 1 true af ac ([] : List (List Int))).bind fun au=>((cpack_Read.f k 11 1 au.1 ([] : List (List Int))).bind fun ak=>((cpack_Read.f k 11 1 (List.replicate 11 0) (([(([9,2,3,4,5] : List Int))] : List (List Int)))).bind fun ah=>(if (au.1.length : Int)=11 then (if au.2=0 then ((w13_As.f ak.1 ak.2.1 ak.2.2.1).bind fun ai=>((w13_As.f true af ac).bind fun aj=>((r13_Same.f k ai.1 ai.2.1 ai.2.2 aj.1 aj.2.1 aj.2.2).bind fun a8=>(if a8=true then (if ak.2.2.2=0 then (if ah.1=true then (none) else ((r12_Same.f k ah.2.1 (([(([6,0,0,1,2] : List Int))] : List (List Int)))).bind fun aU=>(if aU=true then (if ah.2.2.2=0 then ((cpack_Right.f k 11 1 true af ac).bind fun aQ=>(some aQ)) else (none)) else (none)))) else (none)) else (none))))) else (none)) else (none)))))))=some r:=yrw ce H
 have cf:=zm ce;clear ce
 obtain ⟨af,cg⟩ : ∃ y_ : List (List Int),y_=(([bN] : List (List Int))):=⟨_,rfl⟩
 replace H : ((some (([(([(([0] : List Int)),(([0] : List Int)),(([0,0] : List Int)),(([0,0,0,0] : List Int)),(([0,0,0,0,0,0,0,0] : List Int))] : List (List Int)))] : List (List (List Int))) : List (List (List Int)))).bind fun ac=>((cpack_Write.f k 11 1 true af ac ([] : List (List Int))).bind fun au=>((cpack_Read.f k 11 1 au.1 ([] : List (List Int))).bind fun ak=>((cpack_Read.f k 11 1 (List.replicate 11 0) (([(([9,2,3,4,5] : List Int))] : List (List Int)))).bind fun ah=>(if (au.1.length : Int)=11 then (if au.2=0 then ((w13_As.f ak.1 ak.2.1 ak.2.2.1).bind fun ai=>((w13_As.f true af ac).bind fun aj=>((r13_Same.f k ai.1 ai.2.1 ai.2.2 aj.1 aj.2.1 aj.2.2).bind fun a8=>(if a8=true then (if ak.2.2.2=0 then (if ah.1=true then (none) else ((r12_Same.f k ah.2.1 (([(([6,0,0,1,2] : List Int))] : List (List Int)))).bind fun aU=>(if aU=true then (if ah.2.2.2=0 then ((cpack_Right.f k 11 1 true af ac).bind fun aQ=>(some aQ)) else (none)) else (none)))) else (none)) else (none))))) else (none)) else (none))))))=some r:=yrw cg H
 have ch:=zm cg;clear cg
 obtain ⟨bz,ci⟩ : ∃ y_ : List Int,y_=(([0] : List Int)):=⟨_,rfl⟩
 replace H : ((some (([(([bz,(([0] : List Int)),(([0,0] : List Int)),(([0,0,0,0] : List Int)),(([0,0,0,0,0,0,0,0] : List Int))] : List (List Int)))] : List (List (List Int))) : List (List (List Int)))).bind fun ac=>((cpack_Write.f k 11 1 true af ac ([] : List (List Int))).bind fun au=>((cpack_Read.f k 11 1 au.1 ([] : List (List Int))).bind fun ak=>((cpack_Read.f k 11 1 (List.replicate 11 0) (([(([9,2,3,4,5] : List Int))] : List (List Int)))).bind fun ah=>(if (au.1.length : Int)=11 then (if au.2=0 then ((w13_As.f ak.1 ak.2.1 ak.2.2.1).bind fun ai=>((w13_As.f true af ac).bind fun aj=>((r13_Same.f k ai.1 ai.2.1 ai.2.2 aj.1 aj.2.1 aj.2.2).bind fun a8=>(if a8=true then (if ak.2.2.2=0 then (if ah.1=true then (none) else ((r12_Same.f k ah.2.1 (([(([6,0,0,1,2] : List Int))] : List (List Int)))).bind fun aU=>(if aU=true then (if ah.2.2.2=0 then ((cpack_Right.f k 11 1 true af ac).bind fun aQ=>(some aQ)) else (none)) else (none)))) else (none)) else (none))))) else (none)) else (none))))))=some r:=yrw ci H
 have cj:=zm ci;clear ci
 obtain ⟨bD,ck⟩ : ∃ y_ : List Int,y_=(([0] : List Int)):=⟨_,rfl⟩
 replace H : ((some (([(([bz,bD,(([0,0] : List Int)),(([0,0,0,0] : List Int)),(([0,0,0,0,0,0,0,0] : List Int))] : List (List Int)))] : List (List (List Int))) : List (List (List Int)))).bind fun ac=>((cpack_Write.f k 11 1 true af ac ([] : List (List Int))).bind fun au=>((cpack_Read.f k 11 1 au.1 ([] : List (List Int))).bind fun ak=>((cpack_Read.f k 11 1 (List.replicate 11 0) (([(([9,2,3,4,5] : List Int))] : List (List Int)))).bind fun ah=>(if (au.1.length : Int)=11 then (if au.2=0 then ((w13_As.f ak.1 ak.2.1 ak.2.2.1).bind fun ai=>((w13_As.f true af ac).bind fun aj=>((r13_Same.f k ai.1 ai.2.1 ai.2.2 aj.1 aj.2.1 aj.2.2).bind fun a8=>(if a8=true then (if ak.2.2.2=0 then (if ah.1=true then (none) else ((r12_Same.f k ah.2.1 (([(([6,0,0,1,2] : List Int))] : List (List Int)))).bind fun aU=>(if aU=true then (if ah.2.2.2=0 then ((cpack_Right.f k 11 1 true af ac).bind fun aQ=>(some aQ)) else (none)) else (none)))) else (none)) else (none))))) else (none)) else (none))))))=some r:=yrw ck H
 have cl:=zm ck;clear ck
 obtain ⟨bH,cm⟩ : ∃ y_ : List Int,y_=(([0,0] : List Int)):=⟨_,rfl⟩
 replace H : ((some (([(([bz,bD,bH,(([0,0,0,0] : List Int)),(([0,0,0,0,0,0,0,0] : List Int))] : List (List Int)))] : List (List (List Int))) : List (List (List Int)))).bind fun ac=>((cpack_Write.f k 11 1 true af ac ([] : List (List Int))).bind fun au=>((cpack_Read.f k 11 1 au.1 ([] : List (List Int))).bind fun ak=>((cpack_Read.f k 11 1 (List.replicate 11 0) (([(([9,2,3,4,5] : List Int))] : List (List Int)))).bind fun ah=>(if (au.1.length : Int)=11 then (if au.2=0 then ((w13_As.f ak.1 ak.2.1 ak.2.2.1).bind fun ai=>((w13_As.f true af ac).bind fun aj=>((r13_Same.f k ai.1 ai.2.1 ai.2.2 aj.1 aj.2.1 aj.2.2).bind fun a8=>(if a8=true then (if ak.2.2.2=0 then (if ah.1=true then (none) else ((r12_Same.f k ah.2.1 (([(([6,0,0,1,2] : List Int))] : List (List Int)))).bind fun aU=>(if aU=true then (if ah.2.2.2=0 then ((cpack_Right.f k 11 1 true af ac).bind fun aQ=>(some aQ)) else (none)) else (none)))) else (none)) else (none))))) else (none)) else (none))))))=some r:=yrw cm H
 have cn:=zm cm;clear cm
 obtain ⟨bK,co⟩ : ∃ y_ : List Int,y_=(([0,0,0,0] : List Int)):=⟨_,rfl⟩
 replace H : ((some (([(([bz,bD,bH,bK,(([0,0,0,0,0,0,0,0] : List Int))] : List (List Int)))] : List (List (List Int))) : List (List (List Int)))).bind fun ac=>((cpack_Write.f k 11 1 true af ac ([] : List (List Int))).bind fun au=>((cpack_Read.f k 11 1 au.1 ([] : List (List Int))).bind fun ak=>((cpack_Read.f k 11 1 (List.replicate 11 0) (([(([9,2,3,4,5] : List Int))] : List (List Int)))).bind fun ah=>(if (au.1.length : Int)=11 then (if au.2=0 then ((w13_As.f ak.1 ak.2.1 ak.2.2.1).bind fun ai=>((w13_As.f true af ac).bind fun aj=>((r13_Same.f k ai.1 ai.2.1 ai.2.2 aj.1 aj.2.1 aj.2.2).bind fun a8=>(if a8=true then (if ak.2.2.2=0 then (if ah.1=true then (none) else ((r12_Same.f k ah.2.1 (([(([6,0,0,1,2] : List Int))] : List (List Int)))).bind fun aU=>(if aU=true then (if ah.2.2.2=0 then ((cpack_Right.f k 11 1 true af ac).bind fun aQ=>(some aQ)) else (none)) else (none)))) else (none)) else (none))))) else (none)) else (none))))))=some r:=yrw co H
 have cp:=zm co;clear co
 obtain ⟨bO,cq⟩ : ∃ y_ : List Int,y_=(([0,0,0,0,0,0,0,0] : List Int)):=⟨_,rfl⟩
 replace H : ((some (([(([bz,bD,bH,bK,bO] : List (List Int)))] : List (List (List Int))) : List (List (List Int)))).bind fun ac=>((cpack_Write.f k 11 1 true af ac ([] : List (List Int))).bind fun au=>((cpack_Read.f k 11 1 au.1 ([] : List (List Int))).bind fun ak=>((cpack_Read.f k 11 1 (List.replicate 11 0) (([(([9,2,3,4,5] : List Int))] : List (List Int)))).bind fun ah=>(if (au.1.length : Int)=11 then (if au.2=0 then ((w13_As.f ak.1 ak.2.1 ak.2.2.1).bind fun ai=>((w13_As.f true af ac).bind fun aj=>((r13_Same.f k ai.1 ai.2.1 ai.2.2 aj.1 aj.2.1 aj.2.2).bind fun a8=>(if a8=true then (if ak.2.2.2=0 then (if ah.1=true then (none) else ((r12_Same.f k ah.2.1 (([(([6,0,0,1,2] : List Int))] : List (List Int)))).bind fun aU=>(if aU=true then (if ah.2.2.2=0 then ((cpack_Right.f k 11 1 true af ac).bind fun aQ=>(some aQ)) else (none)) else (none)))) else (none)) else (none))))) else (none)) else (none))))))=some r:=yrw cq H
 have cr:=zm cq;clear cq
 obtain ⟨bP,ct⟩ : ∃ y_ : List (List Int),y_=(([bz,bD,bH,bK,bO] : List (List Int))):=⟨_,rfl⟩
 replace H : ((some (([bP] : List (List (List Int))) : List (List (List Int)))).bind fun ac=>((cpack_Write.f k 11 1 true af ac ([] : List (List Int))).bind fun au=>((cpack_Read.f k 11 1 au.1 ([] : List (List Int))).bind fun ak=>((cpack_Read.f k 11 1 (List.replicate 11 0) (([(([9,2,3,4,5] : List Int))] : List (List Int)))).bind fun ah=>(if (au.1.length : Int)=11 then (if au.2=0 then ((w13_As.f ak.1 ak.2.1 ak.2.2.1).bind fun ai=>((w13_As.f true af ac).bind fun aj=>((r13_Same.f k ai.1 ai.2.1 ai.2.2 aj.1 aj.2.1 aj.2.2).bind fun a8=>(if a8=true then (if ak.2.2.2=0 then (if ah.1=true then (none) else ((r12_Same.f k ah.2.1 (([(([6,0,0,1,2] : List Int))] : List (List Int)))).bind fun aU=>(if aU=true then (if ah.2.2.2=0 then ((cpack_Right.f k 11 1 true af ac).bind fun aQ=>(some aQ)) else (none)) else (none)))) else (none)) else (none))))) else (none)) else (none))))))=some r:=yrw ct H
 have cu:=zm ct;clear ct
 obtain ⟨ac,cv⟩ : ∃ y_ : List (List (List Int)),y_=(([bP] : List (List (List Int)))):=⟨_,rfl⟩
 replace H : ((cpack_Write.f k 11 1 true af ac ([] : List (List Int))).bind fun au=>((cpack_Read.f k 11 1 au.1 ([] : List (List Int))).bind fun ak=>((cpack_Read.f k 11 1 (List.replicate 11 0) (([(([9,2,3,4,5] : List Int))] : List (List Int)))).bind fun ah=>(if (au.1.length : Int)=11 then (if au.2=0 then ((w13_As.f ak.1 ak.2.1 ak.2.2.1).bind fun ai=>((w13_As.f true af ac).bind fun aj=>((r13_Same.f k ai.1 ai.2.1 ai.2.2 aj.1 aj.2.1 aj.2.2).bind fun a8=>(if a8=true then (if ak.2.2.2=0 then (if ah.1=true then (none) else ((r12_Same.f k ah.2.1 (([(([6,0,0,1,2] : List Int))] : List (List Int)))).bind fun aU=>(if aU=true then (if ah.2.2.2=0 then ((cpack_Right.f k 11 1 true af ac).bind fun aQ=>(some aQ)) else (none)) else (none)))) else (none)) else (none))))) else (none)) else (none)))))=some r:=yrw cv H
 have cw:=zm cv;clear cv
 obtain ⟨⟨aD,cx⟩,A1,H⟩:=ybi H
 try dsimp only at H
 obtain ⟨⟨bI,aE,aG,cy⟩,A2,H⟩:=ybi H
 try dsimp only at H
 obtain ⟨aT,cz⟩ : ∃ y_ : List Int,y_=(List.replicate 11 0):=⟨_,rfl⟩
 replace H : ((cpack_Read.f k 11 1 aT (([(([9,2,3,4,5] : List Int))] : List (List Int)))).bind fun ah=>(if (aD.length : Int)=11 then (if cx=0 then ((w13_As.f bI aE aG).bind fun ai=>((w13_As.f true af ac).bind fun aj=>((r13_Same.f k ai.1 ai.2.1 ai.2.2 aj.1 aj.2.1 aj.2.2).bind fun a8=>(if a8=true then (if cy=0 then (if ah.1=true then (none) else ((r12_Same.f k ah.2.1 (([(([6,0,0,1,2] : List Int))] : List (List Int)))).bind fun aU=>(if aU=true then (if ah.2.2.2=0 then ((cpack_Right.f k 11 1 true af ac).bind fun aQ=>(some aQ)) else (none)) else (none)))) else (none)) else (none))))) else (none)) else (none)))=some r:=yrw cz H
 have cA:=zm cz;clear cz
 obtain ⟨bQ,cB⟩ : ∃ y_ : List Int,y_=(([9,2,3,4,5] : List Int)):=⟨_,rfl⟩
 replace H : ((cpack_Read.f k 11 1 aT (([bQ] : List (List Int)))).bind fun ah=>(if (aD.length : Int)=11 then (if cx=0 then ((w13_As.f bI aE aG).bind fun ai=>((w13_As.f true af ac).bind fun aj=>((r13_Same.f k ai.1 ai.2.1 ai.2.2 aj.1 aj.2.1 aj.2.2).bind fun a8=>(if a8=true then (if cy=0 then (if ah.1=true then (none) else ((r12_Same.f k ah.2.1 (([(([6,0,0,1,2] : List Int))] : List (List Int)))).bind fun aU=>(if aU=true then (if ah.2.2.2=0 then ((cpack_Right.f k 11 1 true af ac).bind fun aQ=>(some aQ)) else (none)) else (none)))) else (none)) else (none))))) else (none)) else (none)))=some r:=yrw cB H
 have cC:=zm cB;clear cB
 obtain ⟨a7,cD⟩ : ∃ y_ : List (List Int),y_=(([bQ] : List (List Int))):=⟨_,rfl⟩
 replace H : ((cpack_Read.f k 11 1 aT a7).bind fun ah=>(if (aD.length : Int)=11 then (if cx=0 then ((w13_As.f bI aE aG).bind fun ai=>((w13_As.f true af ac).bind fun aj=>((r13_Same.f k ai.1 ai.2.1 ai.2.2 aj.1 aj.2.1 aj.2.2).bind fun a8=>(if a8=true then (if cy=0 then (if ah.1=true then (none) else ((r12_Same.f k ah.2.1 (([(([6,0,0,1,2] : List Int))] : List (List Int)))).bind fun aU=>(if aU=true then (if ah.2.2.2=0 then ((cpack_Right.f k 11 1 true af ac).bind fun aQ=>(some aQ)) else (none)) else (none)))) else (none)) else (none))))) else (none)) else (none)))=some r:=yrw cD H
 have cE:=zm cD;clear cD
 obtain ⟨⟨el,aV,a9,cM⟩,A3,H⟩:=ybi H
 try dsimp only at H
 by_cases c4 : (aD.length : Int)=11
 ·
  rw [if_pos c4] at H
  obtain ⟨dB,dC⟩:=yE c4
  clear c4
  by_cases c5 : cx=0
  ·
   rw [if_pos c5] at H
   obtain ⟨dD,dE⟩:=yE c5
   clear c5
   obtain ⟨⟨cO,cP,cQ⟩,A6,H⟩:=ybi H
   try dsimp only at H
   obtain ⟨⟨cR,cS,cT⟩,A7,H⟩:=ybi H
   try dsimp only at H
   obtain ⟨a8,A8,H⟩:=ybi H
   obtain ⟨c9,H⟩:=yif H
   subst c9
   by_cases c10 : cy=0
   ·
    rw [if_pos c10] at H
    obtain ⟨cU,cV⟩:=yE c10
    clear c10
    obtain ⟨c11,H⟩:=yie H
    replace c11:=Bool.eq_false_iff.mpr c11
    subst c11
    obtain ⟨bR,cF⟩ : ∃ y_ : List Int,y_=(([6,0,0,1,2] : List Int)):=⟨_,rfl⟩
    replace H : ((r12_Same.f k aV (([bR] : List (List Int)))).bind fun aU=>(if aU=true then (if cM=0 then ((cpack_Right.f k 11 1 true af ac).bind fun aQ=>(some aQ)) else (none)) else (none)))=some r:=yrw cF H
    have cG:=zm cF;clear cF
    obtain ⟨cN,cH⟩ : ∃ y_ : List (List Int),y_=(([bR] : List (List Int))):=⟨_,rfl⟩
    replace H : ((r12_Same.f k aV cN).bind fun aU=>(if aU=true then (if cM=0 then ((cpack_Right.f k 11 1 true af ac).bind fun aQ=>(some aQ)) else (none)) else (none)))=some r:=yrw cH H
    have cI:=zm cH;clear cH
    obtain ⟨aU,A12,H⟩:=ybi H
    obtain ⟨c13,H⟩:=yif H
    subst c13
    by_cases c14 : cM=0
    ·
     rw [if_pos c14] at H
     obtain ⟨cW,cX⟩:=yE c14
     clear c14
     obtain ⟨aQ,A15,H⟩:=ybi H
     obtain rfl:=Option.some.inj H
     go_enter Try.func11,Try.ntmps11
     try go_wp2_with (first|((with_reducible refine gate_dst (N:=8) rfl ?_);(try (refine gate_guard (by rfl) ?_;dsimp only));refine Kd.R_lit (Kd.int .i64) _ 3 ?hg (N:=8) ?hd (xs:=([0,0,0,0,0] : List Int)) (inner := [.int .i64 0, .int .i64 0, .int .i64 0, .int .i64 0, .int .i64 0]) (ok:=fun _=>True) (okp:=fun _=>True) ?hr ?hp (fun _ hk=>hk) trivial (Below.refl _ _) (Nat.le_refl _) (by simp) ?_;(case hd=>rfl);(case hg=>rfl);(case hr=>first|(go_simp;done)|(go_simp;rfl));(case hp=>exact (Reps.one (show Kd.M (Kd.int .i64) _ _ _ 0 [.int .i64 0] from rfl) (Reps.one (show Kd.M (Kd.int .i64) _ _ _ 0 [.int .i64 0] from rfl) (Reps.one (show Kd.M (Kd.int .i64) _ _ _ 0 [.int .i64 0] from rfl) (Reps.one (show Kd.M (Kd.int .i64) _ _ _ 0 [.int .i64 0] from rfl) (Reps.one (show Kd.M (Kd.int .i64) _ _ _ 0 [.int .i64 0] from rfl) (Reps.none _ _)))))));intro em w16 b4 hb hg_ hnew_;clear hg_ hnew_;(first|rw [← cf.out] at b4|(simp only [Int.reduceToNat] at b4;rw [← cf.out] at b4)|rw [show (List.replicate (Int.toNat 11) (0 : Int))=bN from cf.out.symm] at b4);have bV:=zm (Kd.R_lower b4 (zE yhb));replace HB:=ybs hb;clear hb b4;obtain ⟨cY,cZ,dF⟩:=Kd.R_slice bV.out;subst dF)|((with_reducible refine gate_dst (N:=9) rfl ?_);(try (refine gate_guard (by rfl) ?_;dsimp only));refine Kd.N_lit (Kd.slice 3 (Kd.int .i64)) _ 49 ?hg (N' := 9) ?hd (xs:=([bN] : List (List Int))) (inner := [.slice cY bN.length cZ]) (ok:=(fun _=>True)) (okp:=(fun _=>True)) ?hr ?hp (fun _ hk=>hk) ((show ∀ k_,w16.heap.size≤k_→(fun _=>True) k_ from fun k_ hk=>trivial) _ (Nat.le_refl _)) (Below.refl _ _) (Nat.le_refl _) (by simp) ?_;(case hd=>rfl);(case hg=>rfl);(case hr=>first|(go_simp;done)|(go_simp;rfl));(case hp=>exact (Reps.one (show Kd.FK (Kd.slice 3 (Kd.int .i64)) _ _ bN [.slice cY bN.length cZ] from (Kd.FK_slice_mk (Kd.R_reads' (zG (ok' := (fun _=>True)) (bV.out) (fun k_ hk=>trivial))).2.1 (Kd.R_F (zG (ok' := (fun _=>True)) (bV.out) (fun k_ hk=>trivial))))) (Reps.none _ _)));intro bp w19 b5 hb hg_ hnew_;clear hg_ hnew_;(first|rw [← ch.out] at b5|(simp only [Int.reduceToNat] at b5;rw [← ch.out] at b5)|rw [show (List.replicate (Int.toNat 11) (0 : Int))=af from ch.out.symm] at b5);have aa:=zm (Kd.N_lower b5 (zE yhb));replace HB:=ybs hb;clear bV;clear hb b5)|((with_reducible refine gate_dst (N:=10) rfl ?_);(try (refine gate_guard (by rfl) ?_;dsimp only));refine Kd.R_lit (Kd.int .i64) _ 3 ?hg (N:=10) ?hd (xs:=([0] : List Int)) (inner := [.int .i64 0]) (ok:=fun _=>True) (okp:=fun _=>True) ?hr ?hp (fun _ hk=>hk) trivial (Below.refl _ _) (Nat.le_refl _) (by simp) ?_;(case hd=>rfl);(case hg=>rfl);(case hr=>first|(go_simp;done)|(go_simp;rfl));(case hp=>exact (Reps.one (show Kd.M (Kd.int .i64) _ _ _ 0 [.int .i64 0] from rfl) (Reps.none _ _)));intro en w21 bS hb hg_ hnew_;clear hg_ hnew_;(first|rw [← cj.out] at bS|(simp only [Int.reduceToNat] at bS;rw [← cj.out] at bS)|rw [show (List.replicate (Int.toNat 11) (0 : Int))=bz from cj.out.symm] at bS);replace aa:=zm (Kd.N_elder' (yr aa) (Kd.R_base bS) hb);have bc:=zm (Kd.R_lower bS (zE yhb));replace HB:=ybs hb;clear hb bS)|((with_reducible refine gate_dst (N:=11) rfl ?_);(try (refine gate_guard (by rfl) ?_;dsimp only));refine Kd.R_lit (Kd.int .i64) _ 3 ?hg (N:=11) ?hd (xs:=([0] : List Int)) (inner := [.int .i64 0]) (ok:=fun _=>True) (okp:=fun _=>True) ?hr ?hp (fun _ hk=>hk) trivial (Below.refl _ _) (Nat.le_refl _) (by simp) ?_;(case hd=>rfl);(case hg=>rfl);(case hr=>first|(go_simp;done)|(go_simp;rfl));(case hp=>exact (Reps.one (show Kd.M (Kd.int .i64) _ _ _ 0 [.int .i64 0] from rfl) (Reps.none _ _)));intro eo w23 bL hb hg_ hnew_;clear hg_ hnew_;(first|rw [← cl.out] at bL|(simp only [Int.reduceToNat] at bL;rw [← cl.out] at bL)|rw [show (List.replicate (Int.toNat 11) (0 : Int))=bD from cl.out.symm] at bL);replace aa:=zm (Kd.N_elder' (yr aa) (Kd.R_base bL) hb);have bm:=zm (Kd.R_lower (Kd.R_new' bL (Kd.R_lt (yr bc))) (zE yhb));replace bc:=zm (Kd.R_elder' (yr bc) (Kd.R_base bL) hb);replace HB:=ybs hb;clear hb bL)|((with_reducible refine gate_dst (N:=12) rfl ?_);(try (refine gate_guard (by rfl) ?_;dsimp only));refine Kd.R_lit (Kd.int .i64) _ 3 ?hg (N:=12) ?hd (xs:=([0,0] : List Int)) (inner := [.int .i64 0, .int .i64 0]) (ok:=fun _=>True) (okp:=fun _=>True) ?hr ?hp (fun _ hk=>hk) trivial (Below.refl _ _) (Nat.le_refl _) (by simp) ?_;(case hd=>rfl);(case hg=>rfl);(case hr=>first|(go_simp;done)|(go_simp;rfl));(case hp=>exact (Reps.one (show Kd.M (Kd.int .i64) _ _ _ 0 [.int .i64 0] from rfl) (Reps.one (show Kd.M (Kd.int .i64) _ _ _ 0 [.int .i64 0] from rfl) (Reps.none _ _))));intro ep w25 bJ hb hg_ hnew_;clear hg_ hnew_;(first|rw [← cn.out] at bJ|(simp only [Int.reduceToNat] at bJ;rw [← cn.out] at bJ)|rw [show (List.replicate (Int.toNat 11) (0 : Int))=bH from cn.out.symm] at bJ);replace aa:=zm (Kd.N_elder' (yr aa) (Kd.R_base bJ) hb);have bx:=zm (Kd.R_lower (Kd.R_new' (Kd.R_new' bJ (Kd.R_lt (yr bc))) (Kd.R_lt (yr bm))) (zE yhb));replace bc:=zm (Kd.R_elder' (yr bc) (Kd.R_base bJ) hb);replace bm:=zm (Kd.R_elder' (yr bm) (Kd.R_base bJ) hb);replace HB:=ybs hb;clear hb bJ)|((with_reducible refine gate_dst (N:=13) rfl ?_);(try (refine gate_guard (by rfl) ?_;dsimp only));refine Kd.R_lit (Kd.int .i64) _ 3 ?hg (N:=13) ?hd (xs:=([0,0,0,0] : List Int)) (inner := [.int .i64 0, .int .i64 0, .int .i64 0, .int .i64 0]) (ok:=fun _=>True) (okp:=fun _=>True) ?hr ?hp (fun _ hk=>hk) trivial (Below.refl _ _) (Nat.le_refl _) (by simp) ?_;(case hd=>rfl);(case hg=>rfl);(case hr=>first|(go_simp;done)|(go_simp;rfl));(case hp=>exact (Reps.one (show Kd.M (Kd.int .i64) _ _ _ 0 [.int .i64 0] from rfl) (Reps.one (show Kd.M (Kd.int .i64) _ _ _ 0 [.int .i64 0] from rfl) (Reps.one (show Kd.M (Kd.int .i64) _ _ _ 0 [.int .i64 0] from rfl) (Reps.one (show Kd.M (Kd.int .i64) _ _ _ 0 [.int .i64 0] from rfl) (Reps.none _ _))))));intro eq w27 bE hb hg_ hnew_;clear hg_ hnew_;(first|rw [← cp.out] at bE|(simp only [Int.reduceToNat] at bE;rw [← cp.out] at bE)|rw [show (List.replicate (Int.toNat 11) (0 : Int))=bK from cp.out.symm] at bE);replace aa:=zm (Kd.N_elder' (yr aa) (Kd.R_base bE) hb);have bA:=zm (Kd.R_lower (Kd.R_new' (Kd.R_new' (Kd.R_new' bE (Kd.R_lt (yr bc))) (Kd.R_lt (yr bm))) (Kd.R_lt (yr bx))) (zE yhb));replace bc:=zm (Kd.R_elder' (yr bc) (Kd.R_base bE) hb);replace bm:=zm (Kd.R_elder' (yr bm) (Kd.R_base bE) hb);replace bx:=zm (Kd.R_elder' (yr bx) (Kd.R_base bE) hb);replace HB:=ybs hb;clear hb bE)|((with_reducible refine gate_dst (N:=14) rfl ?_);(try (refine gate_guard (by rfl) ?_;dsimp only));refine Kd.R_lit (Kd.int .i64) _ 3 ?hg (N:=14) ?hd (xs:=([0,0,0,0,0,0,0,0] : List Int)) (inner := [.int .i64 0, .int .i64 0, .int .i64 0, .int .i64 0, .int .i64 0, .int .i64 0, .int .i64 0, .int .i64 0]) (ok:=fun _=>True) (okp:=fun _=>True) ?hr ?hp (fun _ hk=>hk) trivial (Below.refl _ _) (Nat.le_refl _) (by simp) ?_;(case hd=>rfl);(case hg=>rfl);(case hr=>first|(go_simp;done)|(go_simp;rfl));(case hp=>exact (Reps.one (show Kd.M (Kd.int .i64) _ _ _ 0 [.int .i64 0] from rfl) (Reps.one (show Kd.M (Kd.int .i64) _ _ _ 0 [.int .i64 0] from rfl) (Reps.one (show Kd.M (Kd.int .i64) _ _ _ 0 [.int .i64 0] from rfl) (Reps.one (show Kd.M (Kd.int .i64) _ _ _ 0 [.int .i64 0] from rfl) (Reps.one (show Kd.M (Kd.int .i64) _ _ _ 0 [.int .i64 0] from rfl) (Reps.one (show Kd.M (Kd.int .i64) _ _ _ 0 [.int .i64 0] from rfl) (Reps.one (show Kd.M (Kd.int .i64) _ _ _ 0 [.int .i64 0] from rfl) (Reps.one (show Kd.M (Kd.int .i64) _ _ _ 0 [.int .i64 0] from rfl) (Reps.none _ _))))))))));intro er w29 bB hb hg_ hnew_;clear hg_ hnew_;(first|rw [← cr.out] at bB|(simp only [Int.reduceToNat] at bB;rw [← cr.out] at bB)|rw [show (List.replicate (Int.toNat 11) (0 : Int))=bO from cr.out.symm] at bB);replace aa:=zm (Kd.N_elder' (yr aa) (Kd.R_base bB) hb);have bW:=zm (Kd.R_lower (Kd.R_new' (Kd.R_new' (Kd.R_new' (Kd.R_new' bB (Kd.R_lt (yr bc))) (Kd.R_lt (yr bm))) (Kd.R_lt (yr bx))) (Kd.R_lt (yr bA))) (zE yhb));replace bc:=zm (Kd.R_elder' (yr bc) (Kd.R_base bB) hb);replace bm:=zm (Kd.R_elder' (yr bm) (Kd.R_base bB) hb);replace bx:=zm (Kd.R_elder' (yr bx) (Kd.R_base bB) hb);replace bA:=zm (Kd.R_elder' (yr bA) (Kd.R_base bB) hb);replace HB:=ybs hb;clear hb bB;obtain ⟨da,db,dG⟩:=Kd.R_slice bc.out;subst dG;obtain ⟨dc,dd,dH⟩:=Kd.R_slice bm.out;subst dH;obtain ⟨de,df,dI⟩:=Kd.R_slice bx.out;subst dI;obtain ⟨dg,dh,dJ⟩:=Kd.R_slice bA.out;subst dJ;obtain ⟨di,dj,dK⟩:=Kd.R_slice bW.out;subst dK)|((with_reducible refine gate_dst (N:=15) rfl ?_);(try (refine gate_guard (by rfl) ?_;dsimp only));refine Kd.N_lit (Kd.slice 3 (Kd.int .i64)) _ 49 ?hg (N' := 15) ?hd (xs:=([bz,bD,bH,bK,bO] : List (List Int))) (inner := [.slice da bz.length db, .slice dc bD.length dd, .slice de bH.length df, .slice dg bK.length dh, .slice di bO.length dj]) (ok:=(fun k_=>some k_≠(bp : Value).ownBlock)) (okp:=(fun k_=>some k_≠(bp : Value).ownBlock)) ?hr ?hp (fun _ hk=>hk) ((show ∀ k_,w29.heap.size≤k_→(fun k_=>some k_≠(bp : Value).ownBlock) k_ from fun k_ hk=>Kd.fresh' (Kd.N_lt (yr aa)) k_ hk) _ (Nat.le_refl _)) (Below.refl _ _) (Nat.le_refl _) (by simp) ?_;(case hd=>rfl);(case hg=>rfl);(case hr=>first|(go_simp;done)|(go_simp;rfl));(case hp=>exact (Reps.one (show Kd.FK (Kd.slice 3 (Kd.int .i64)) _ _ bz [.slice da bz.length db] from (Kd.FK_slice_mk (Kd.R_reads' (zG (ok' := (fun k_=>some k_≠(bp : Value).ownBlock)) (Kd.R_apart' (bc.out) (Kd.N_typed aa.out) (by decide)) (fun k_ hk=>hk.2))).2.1 (Kd.R_F (zG (ok' := (fun k_=>some k_≠(bp : Value).ownBlock)) (Kd.R_apart' (bc.out) (Kd.N_typed aa.out) (by decide)) (fun k_ hk=>hk.2))))) (Reps.one (show Kd.FK (Kd.slice 3 (Kd.int .i64)) _ _ bD [.slice dc bD.length dd] from (Kd.FK_slice_mk (Kd.R_reads' (zG (ok' := (fun k_=>some k_≠(bp : Value).ownBlock)) (Kd.R_apart' (bm.out) (Kd.N_typed aa.out) (by decide)) (fun k_ hk=>hk.2))).2.1 (Kd.R_F (zG (ok' := (fun k_=>some k_≠(bp : Value).ownBlock)) (Kd.R_apart' (bm.out) (Kd.N_typed aa.out) (by decide)) (fun k_ hk=>hk.2))))) (Reps.one (show Kd.FK (Kd.slice 3 (Kd.int .i64)) _ _ bH [.slice de bH.length df] from (Kd.FK_slice_mk (Kd.R_reads' (zG (ok' := (fun k_=>some k_≠(bp : Value).ownBlock)) (Kd.R_apart' (bx.out) (Kd.N_typed aa.out) (by decide)) (fun k_ hk=>hk.2))).2.1 (Kd.R_F (zG (ok' := (fun k_=>some k_≠(bp : Value).ownBlock)) (Kd.R_apart' (bx.out) (Kd.N_typed aa.out) (by decide)) (fun k_ hk=>hk.2))))) (Reps.one (show Kd.FK (Kd.slice 3 (Kd.int .i64)) _ _ bK [.slice dg bK.length dh] from (Kd.FK_slice_mk (Kd.R_reads' (zG (ok' := (fun k_=>some k_≠(bp : Value).ownBlock)) (Kd.R_apart' (bA.out) (Kd.N_typed aa.out) (by decide)) (fun k_ hk=>hk.2))).2.1 (Kd.R_F (zG (ok' := (fun k_=>some k_≠(bp : Value).ownBlock)) (Kd.R_apart' (bA.out) (Kd.N_typed aa.out) (by decide)) (fun k_ hk=>hk.2))))) (Reps.one (show Kd.FK (Kd.slice 3 (Kd.int .i64)) _ _ bO [.slice di bO.length dj] from (Kd.FK_slice_mk (Kd.R_reads' (zG (ok' := (fun k_=>some k_≠(bp : Value).ownBlock)) (Kd.R_apart' (bW.out) (Kd.N_typed aa.out) (by decide)) (fun k_ hk=>hk.2))).2.1 (Kd.R_F (zG (ok' := (fun k_=>some k_≠(bp : Value).ownBlock)) (Kd.R_apart' (bW.out) (Kd.N_typed aa.out) (by decide)) (fun k_ hk=>hk.2))))) (Reps.none _ _)))))));intro es w36 bT hb hg_ hnew_;clear hg_ hnew_;(first|rw [← cu.out] at bT|(simp only [Int.reduceToNat] at bT;rw [← cu.out] at bT)|rw [show (List.replicate (Int.toNat 11) (0 : Int))=bP from cu.out.symm] at bT);replace aa:=zm (Kd.N_elder' (yr aa) (Kd.N_base bT) hb);have bX:=zm (Kd.N_lower bT (zE yhb));replace HB:=ybs hb;clear bc;clear bm;clear bx;clear bA;clear bW;clear hb bT;obtain ⟨dk,dl,dL⟩:=Kd.N_slice bX.out;subst dL)|((with_reducible refine gate_dst (N:=16) rfl ?_);(try (refine gate_guard (by rfl) ?_;dsimp only));refine Kd.N_lit (Kd.slice 49 (Kd.slice 3 (Kd.int .i64))) _ 22 ?hg (N' := 16) ?hd (xs:=([bP] : List (List (List Int)))) (inner := [.slice dk bP.length dl]) (ok:=(fun k_=>some k_≠(bp : Value).ownBlock)) (okp:=(fun k_=>some k_≠(bp : Value).ownBlock)) ?hr ?hp (fun _ hk=>hk) ((show ∀ k_,w36.heap.size≤k_→(fun k_=>some k_≠(bp : Value).ownBlock) k_ from fun k_ hk=>Kd.fresh' (Kd.N_lt (yr aa)) k_ hk) _ (Nat.le_refl _)) (Below.refl _ _) (Nat.le_refl _) (by simp) ?_;(case hd=>rfl);(case hg=>rfl);(case hr=>first|(go_simp;done)|(go_simp;rfl));(case hp=>exact (Reps.one (show Kd.FK (Kd.slice 49 (Kd.slice 3 (Kd.int .i64))) _ _ bP [.slice dk bP.length dl] from (Kd.FK_slice_mk (Kd.N_reads' (Kd.N_mono (ok' := (fun k_=>some k_≠(bp : Value).ownBlock)) (bX.out) (fun k_ hk=>hk))).2.1 (Kd.N_F (Kd.N_mono (ok' := (fun k_=>some k_≠(bp : Value).ownBlock)) (bX.out) (fun k_ hk=>hk))))) (Reps.none _ _)));intro et w39 bU hb hg_ hnew_;clear hg_ hnew_;(first|rw [← cw.out] at bU|(simp only [Int.reduceToNat] at bU;rw [← cw.out] at bU)|rw [show (List.replicate (Int.toNat 11) (0 : Int))=ac from cw.out.symm] at bU);replace aa:=zm (Kd.N_elder' (yr aa) (Kd.N_base bU) hb);have ae:=zm (Kd.N_lower bU (zE yhb));replace HB:=ybs hb;clear bX;clear hb bU;obtain ⟨aJ,aH,dM⟩:=Kd.N_slice ae.out;subst dM;obtain ⟨aK,aI,dN⟩:=Kd.N_slice aa.out;subst dN)|((with_reducible refine gate_dst (N:=1) rfl ?_);(try (refine gate_guard (by rfl) ?_;dsimp only));refine ybx 1 #[.bool false, .slice none 0 0, .slice none 0 0] 25 ?_;intro av hg w43 hbox hb;replace aa:=zm (Kd.N_below (Kd.N_elderB (yr aa) av (Nat.le_of_eq hg.symm)) hb);replace ae:=zm (Kd.N_below (Kd.N_elderB (yr ae) av (Nat.le_of_eq hg.symm)) hb);have ag:=zm (hbox);have ef:=ygw hg;have eg:=ygw hg;replace HB:=ybs hb;clear hb hbox hg;obtain ⟨_,_,_,_,_,_⟩:=yc3 ag)|((with_reducible refine gate_callee (f:=12) rfl ?_);refine ygl 20 Try.func12 #[.int .i64 11, .int .i64 1, .agg #[.bool true, .slice aK af.length aI, .slice aJ ac.length aH], .slice none 0 0] ?_;(refine (cpack_Write.calls k 11 1 true _ _ af _ _ ac _ _ ([] : List (List Int)) aD cx _ ?bg ?bh ?bq ?br ?cJ ?cK A1.out).mono ?_);(case bg=>refine (Kd.N_reads' (e:=49) (base:=w.heap.size) (ok:=fun k_=>(some k_≠(.slice aJ ac.length aH : Value).ownBlock∧k_≠av)) (n:=af.length) (c:=aI) ?_).2.2;refine' Kd.N_mono ?own_ ?hk_;(case own_=>exact (yN0 aa));(case hk_=>exact fun k_ hk_=>⟨hk_.1.2,hk_.2⟩));(case bh=>exact (Kd.N_reads' aa.out).2.1);(case bq=>refine (Kd.N_reads' (e:=22) (base:=w.heap.size) (ok:=fun k_=>(some k_≠(.slice aK af.length aI : Value).ownBlock∧k_≠av)) (n:=ac.length) (c:=aH) ?_).2.2;exact (yN0 ae));(case br=>exact (Kd.N_reads' ae.out).2.1);(case cJ=>exact Kd.C_nil _ _);(case cK=>exact Nat.le_refl _);rintro e w45 ⟨eu,rfl,ho0,hb⟩;refine ⟨_,rfl, ?_⟩;replace aa:=zm (Kd.N_elder' (yN0 aa) (Kd.R_base ho0) hb);replace ae:=zm (Kd.N_elder' (yN0 ae) (Kd.R_base ho0) hb);have al:=zm (Kd.R_lower ho0 (zE yhb));replace ag:=zm (zF (g:=av) (o:=.cells #[.bool true, .slice aK af.length aI, .slice aJ ac.length aH] 25 (0,0)) (ykp ag) hb);replace HB:=ybs hb;(try clear hb);(try clear ho0);obtain ⟨aM,aN,dO⟩:=Kd.R_slice al.out;subst dO)|((with_reducible refine gate_callee (f:=20) rfl ?_);refine ygl 25 Try.func20 #[.int .i64 11, .int .i64 1, .slice aM aD.length aN, .slice none 0 0] ?_;(refine (cpack_Read.calls k 11 1 _ _ aD _ _ ([] : List (List Int)) bI aE aG cy _ ?bg ?bh ?bq ?br A2.out).mono ?_);(case bg=>exact yce (Kd.R_reads' al.out).2.2);(case bh=>exact (Kd.R_reads' al.out).2.1);(case bq=>exact Kd.C_nil _ _);(case br=>exact Nat.le_refl _);rintro e w47 ⟨dP,dQ,rfl,ho0,ho1,hb⟩;refine ⟨_,rfl, ?_⟩;have ao:=zm (Kd.N_lower (Kd.N_mono (ok' := fun k_=>some k_≠(dQ : Value).ownBlock∧some k_≠(.slice aK af.length aI : Value).ownBlock∧some k_≠(.slice aJ ac.length aH : Value).ownBlock∧some k_≠(.slice aM aD.length aN : Value).ownBlock∧k_≠av) (Kd.S_N (Kd.S_bound (Kd.S_apart' ho0 (Kd.R_typed ho1) (by decide)))) (fun k_ hk_=>⟨hk_.1.2,(Kd.fresh' (Kd.N_lt (yr aa)) k_ hk_.2.1),(Kd.fresh' (Kd.N_lt (yr ae)) k_ hk_.2.1),(Kd.fresh' (Kd.R_lt (yr al)) k_ hk_.2.1),(Kd.freshB (yk ag) k_ hk_.2.1)⟩)) (zE yhb));have ap:=zm (Kd.N_lower (Kd.N_mono (ok' := fun k_=>some k_≠(dP : Value).ownBlock∧some k_≠(.slice aK af.length aI : Value).ownBlock∧some k_≠(.slice aJ ac.length aH : Value).ownBlock∧some k_≠(.slice aM aD.length aN : Value).ownBlock∧k_≠av) (Kd.R_N (Kd.R_bound ho1)) (fun k_ hk_=>⟨hk_.1,(Kd.fresh' (Kd.N_lt (yr aa)) k_ hk_.2.1),(Kd.fresh' (Kd.N_lt (yr ae)) k_ hk_.2.1),(Kd.fresh' (Kd.R_lt (yr al)) k_ hk_.2.1),(Kd.freshB (yk ag) k_ hk_.2.1)⟩)) (zE yhb));replace aa:=zm (Kd.N_mono (Kd.N_told (Kd.N_told (Kd.N_old (yr aa) hb) (Kd.S_base ho0)) (Kd.R_base ho1)) (fun _ h_=>h_.1));replace ae:=zm (Kd.N_mono (Kd.N_told (Kd.N_told (Kd.N_old (yr ae) hb) (Kd.S_base ho0)) (Kd.R_base ho1)) (fun _ h_=>h_.1));replace al:=yRb al hb;replace ag:=ybb ag hb;replace HB:=ybs hb;(try clear hb);(try clear ho0);(try clear ho1))|((with_reducible refine gate_dst (N:=4) rfl ?_);(try (refine gate_guard (by rfl) ?_;dsimp only));refine ybx 4 #[.bool false, .slice none 0 0, .slice none 0 0] 25 ?_;intro aw hg w48 hbox hb;replace aa:=zm (Kd.N_below (Kd.N_elderB (yr aa) aw (Nat.le_of_eq hg.symm)) hb);replace ae:=zm (Kd.N_below (Kd.N_elderB (yr ae) aw (Nat.le_of_eq hg.symm)) hb);replace al:=yRb al hb;replace ao:=zm (Kd.N_below (Kd.N_elderB (yr ao) aw (Nat.le_of_eq hg.symm)) hb);replace ap:=zm (Kd.N_below (Kd.N_elderB (yr ap) aw (Nat.le_of_eq hg.symm)) hb);have am:=zm (hbox);have eh:=ygw hg;have ei:=ygw hg;replace HB:=ybs hb;have b6:=ynl ag hg;have b7:=yng ag hg;replace ag:=ybb ag hb;clear hb hbox hg;have:=b7.out;have:=b6.out;obtain ⟨_,_,_,_,_,_⟩:=yc3 am;obtain ⟨aW,aX,dR⟩:=Kd.N_slice ao.out;subst dR;obtain ⟨aY,aZ,dS⟩:=Kd.N_slice ap.out;subst dS)|((with_reducible refine gate_dst (N:=29) rfl ?_);(try (refine gate_guard (by rfl) ?_;dsimp only));refine Kd.R_make (Kd.int .u8) _ 5 rfl (N:=29) rfl 28 _ _ rfl 11 rfl rfl Try.underlying28 (.int .u8 0) 1 info5 rfl (by decide) (by omega) 0 (ok:=fun _=>True) (okp:=fun _=>True) rfl (fun _ hk=>hk) trivial (by omega) (by omega) (Below.refl _ _) (Nat.le_refl _) ?_;intro cL w53 bC hb hg_ hnew_;clear hg_ hnew_;(first|rw [← cA.out] at bC|(simp only [Int.reduceToNat] at bC;rw [← cA.out] at bC)|rw [show (List.replicate (Int.toNat 11) (0 : Int))=aT from cA.out.symm] at bC);replace aa:=zm (Kd.N_elder' (yN0 aa) (Kd.R_base bC) hb);replace ae:=zm (Kd.N_elder' (yN0 ae) (Kd.R_base bC) hb);replace ao:=zm (Kd.N_elder' (yN0 ao) (Kd.R_base bC) hb);replace ap:=zm (Kd.N_elder' (yN0 ap) (Kd.R_base bC) hb);have aq:=zm (Kd.R_lower (Kd.R_new' bC (Kd.R_lt (yR1 al am))) (zE yhb));replace al:=zm (Kd.R_elder' (yR1 al am) (Kd.R_base bC) hb);replace ag:=ybb ag hb;replace am:=zm (zF (g:=aw) (o:=.cells #[.bool bI, .slice aW aE.length aX, .slice aY aG.length aZ] 25 (0,0)) (ykp am) hb);replace HB:=ybs hb;clear hb bC)|((with_reducible refine gate_dst (N:=30) rfl ?_);(try (refine gate_guard (by rfl) ?_;dsimp only));refine Kd.R_lit (Kd.int .i64) _ 3 ?hg (N:=30) ?hd (xs:=([9,2,3,4,5] : List Int)) (inner := [.int .i64 9, .int .i64 2, .int .i64 3, .int .i64 4, .int .i64 5]) (ok:=fun _=>True) (okp:=fun _=>True) ?hr ?hp (fun _ hk=>hk) trivial (Below.refl _ _) (Nat.le_refl _) (by simp) ?_;(case hd=>rfl);(case hg=>rfl);(case hr=>first|(go_simp;done)|(go_simp;rfl));(case hp=>exact (Reps.one (show Kd.M (Kd.int .i64) _ _ _ 9 [.int .i64 9] from rfl) (Reps.one (show Kd.M (Kd.int .i64) _ _ _ 2 [.int .i64 2] from rfl) (Reps.one (show Kd.M (Kd.int .i64) _ _ _ 3 [.int .i64 3] from rfl) (Reps.one (show Kd.M (Kd.int .i64) _ _ _ 4 [.int .i64 4] from rfl) (Reps.one (show Kd.M (Kd.int .i64) _ _ _ 5 [.int .i64 5] from rfl) (Reps.none _ _)))))));intro ev w55 bF hb hg_ hnew_;clear hg_ hnew_;(first|rw [← cC.out] at bF|(simp only [Int.reduceToNat] at bF;rw [← cC.out] at bF)|rw [show (List.replicate (Int.toNat 11) (0 : Int))=bQ from cC.out.symm] at bF);replace aa:=zm (Kd.N_elder' (yr aa) (Kd.R_base bF) hb);replace ae:=zm (Kd.N_elder' (yr ae) (Kd.R_base bF) hb);replace al:=yRb al hb;replace ao:=zm (Kd.N_elder' (yr ao) (Kd.R_base bF) hb);replace ap:=zm (Kd.N_elder' (yr ap) (Kd.R_base bF) hb);replace aq:=yRb aq hb;have bY:=zm (Kd.R_lower bF (zE yhb));replace ag:=ybb ag hb;replace am:=ybb am hb;replace HB:=ybs hb;clear hb bF;obtain ⟨dm,dp,dT⟩:=Kd.R_slice bY.out;subst dT)|((with_reducible refine gate_dst (N:=31) rfl ?_);(try (refine gate_guard (by rfl) ?_;dsimp only));refine Kd.N_lit (Kd.slice 3 (Kd.int .i64)) _ 49 ?hg (N' := 31) ?hd (xs:=([bQ] : List (List Int))) (inner := [.slice dm bQ.length dp]) (ok:=(fun k_=>some k_≠(.slice aK af.length aI : Value).ownBlock∧some k_≠(.slice aJ ac.length aH : Value).ownBlock∧some k_≠(.slice aM aD.length aN : Value).ownBlock∧some k_≠(.slice aW aE.length aX : Value).ownBlock∧some k_≠(.slice aY aG.length aZ : Value).ownBlock∧some k_≠(cL : Value).ownBlock∧k_≠av∧k_≠aw)) (okp:=(fun k_=>some k_≠(.slice aK af.length aI : Value).ownBlock∧some k_≠(.slice aJ ac.length aH : Value).ownBlock∧some k_≠(.slice aM aD.length aN : Value).ownBlock∧some k_≠(.slice aW aE.length aX : Value).ownBlock∧some k_≠(.slice aY aG.length aZ : Value).ownBlock∧some k_≠(cL : Value).ownBlock∧k_≠av∧k_≠aw)) ?hr ?hp (fun _ hk=>hk) ((show ∀ k_,w55.heap.size≤k_→(fun k_=>some k_≠(.slice aK af.length aI : Value).ownBlock∧some k_≠(.slice aJ ac.length aH : Value).ownBlock∧some k_≠(.slice aM aD.length aN : Value).ownBlock∧some k_≠(.slice aW aE.length aX : Value).ownBlock∧some k_≠(.slice aY aG.length aZ : Value).ownBlock∧some k_≠(cL : Value).ownBlock∧k_≠av∧k_≠aw) k_ from fun k_ hk=>⟨Kd.fresh' (Kd.N_lt (yr aa)) k_ hk,Kd.fresh' (Kd.N_lt (yr ae)) k_ hk,Kd.fresh' (Kd.R_lt (yr al)) k_ hk,Kd.fresh' (Kd.N_lt (yr ao)) k_ hk,Kd.fresh' (Kd.N_lt (yr ap)) k_ hk,Kd.fresh' (Kd.R_lt (yr aq)) k_ hk,Kd.freshB (yk ag) k_ hk,Kd.freshB (yk am) k_ hk⟩) _ (Nat.le_refl _)) (Below.refl _ _) (Nat.le_refl _) (by simp) ?_;(case hd=>rfl);(case hg=>rfl);(case hr=>first|(go_simp;done)|(go_simp;rfl));(case hp=>exact (Reps.one (show Kd.FK (Kd.slice 3 (Kd.int .i64)) _ _ bQ [.slice dm bQ.length dp] from (Kd.FK_slice_mk (Kd.R_reads' (zG (ok' := (fun k_=>some k_≠(.slice aK af.length aI : Value).ownBlock∧some k_≠(.slice aJ ac.length aH : Value).ownBlock∧some k_≠(.slice aM aD.length aN : Value).ownBlock∧some k_≠(.slice aW aE.length aX : Value).ownBlock∧some k_≠(.slice aY aG.length aZ : Value).ownBlock∧some k_≠(cL : Value).ownBlock∧k_≠av∧k_≠aw)) (Kd.R_types (Kd.R_types (Kd.R_apart' (Kd.R_apart' (Kd.R_apart' (Kd.R_apart' (Kd.R_apart' (Kd.R_apart' (bY.out) (Kd.N_typed aa.out) (by decide)) (Kd.N_typed ae.out) (by decide)) (Kd.R_typed al.out) (by decide)) (Kd.N_typed ao.out) (by decide)) (Kd.N_typed ap.out) (by decide)) (Kd.R_typed aq.out) (by decide)) ag.out (by decide)) am.out (by decide)) (fun k_ hk=>⟨hk.1.1.1.1.1.1.1.2,⟨hk.1.1.1.1.1.1.2,⟨hk.1.1.1.1.1.2,⟨hk.1.1.1.1.2,⟨hk.1.1.1.2,⟨hk.1.1.2,⟨hk.1.2,hk.2⟩⟩⟩⟩⟩⟩⟩))).2.1 (Kd.R_F (zG (ok' := (fun k_=>some k_≠(.slice aK af.length aI : Value).ownBlock∧some k_≠(.slice aJ ac.length aH : Value).ownBlock∧some k_≠(.slice aM aD.length aN : Value).ownBlock∧some k_≠(.slice aW aE.length aX : Value).ownBlock∧some k_≠(.slice aY aG.length aZ : Value).ownBlock∧some k_≠(cL : Value).ownBlock∧k_≠av∧k_≠aw)) (Kd.R_types (Kd.R_types (Kd.R_apart' (Kd.R_apart' (Kd.R_apart' (Kd.R_apart' (Kd.R_apart' (Kd.R_apart' (bY.out) (Kd.N_typed aa.out) (by decide)) (Kd.N_typed ae.out) (by decide)) (Kd.R_typed al.out) (by decide)) (Kd.N_typed ao.out) (by decide)) (Kd.N_typed ap.out) (by decide)) (Kd.R_typed aq.out) (by decide)) ag.out (by decide)) am.out (by decide)) (fun k_ hk=>⟨hk.1.1.1.1.1.1.1.2,⟨hk.1.1.1.1.1.1.2,⟨hk.1.1.1.1.1.2,⟨hk.1.1.1.1.2,⟨hk.1.1.1.2,⟨hk.1.1.2,⟨hk.1.2,hk.2⟩⟩⟩⟩⟩⟩⟩))))) (Reps.none _ _)));intro ew w58 bG hb hg_ hnew_;clear hg_ hnew_;(first|rw [← cE.out] at bG|(simp only [Int.reduceToNat] at bG;rw [← cE.out] at bG)|rw [show (List.replicate (Int.toNat 11) (0 : Int))=a7 from cE.out.symm] at bG);replace aa:=zm (Kd.N_elder' (yr aa) (Kd.N_base bG) hb);replace ae:=zm (Kd.N_elder' (yr ae) (Kd.N_base bG) hb);replace al:=yRb al hb;replace ao:=zm (Kd.N_elder' (yr ao) (Kd.N_base bG) hb);replace ap:=zm (Kd.N_elder' (yr ap) (Kd.N_base bG) hb);replace aq:=yRb aq hb;have ay:=zm (Kd.N_lower bG (zE yhb));replace ag:=ybb ag hb;replace am:=ybb am hb;replace HB:=ybs hb;clear bY;clear hb bG;obtain ⟨ba,bb,dU⟩:=Kd.R_slice aq.out;subst dU;obtain ⟨bi,bj,dV⟩:=Kd.N_slice ay.out;subst dV)|((with_reducible refine gate_callee (f:=20) rfl ?_);refine ygl 32 Try.func20 #[.int .i64 11, .int .i64 1, .slice ba aT.length bb, .slice bi a7.length bj] ?_;(with_reducible refine (cpack_Read.calls k 11 1 _ _ aT _ _ a7 false aV a9 cM _ ?bg ?bh ?bq ?br A3.out).mono ?_);(case bg=>exact yce (Kd.R_reads' aq.out).2.2);(case bh=>exact (Kd.R_reads' aq.out).2.1);(case bq=>exact yce (Kd.N_reads' ay.out).2.2);(case br=>exact (Kd.N_reads' ay.out).2.1);rintro e w62 ⟨dW,dX,rfl,ho0,ho1,hb⟩;refine ⟨_,rfl, ?_⟩;have az:=zm (Kd.N_lower (Kd.N_mono (ok' := fun k_=>some k_≠(dX : Value).ownBlock∧some k_≠(.slice aK af.length aI : Value).ownBlock∧some k_≠(.slice aJ ac.length aH : Value).ownBlock∧some k_≠(.slice aM aD.length aN : Value).ownBlock∧some k_≠(.slice aW aE.length aX : Value).ownBlock∧some k_≠(.slice aY aG.length aZ : Value).ownBlock∧some k_≠(.slice ba aT.length bb : Value).ownBlock∧some k_≠(.slice bi a7.length bj : Value).ownBlock∧k_≠av∧k_≠aw) (Kd.S_N (Kd.S_bound (Kd.S_apart' ho0 (Kd.R_typed ho1) (by decide)))) (fun k_ hk_=>⟨hk_.1.2,(Kd.fresh' (Kd.N_lt (yr aa)) k_ hk_.2.1),(Kd.fresh' (Kd.N_lt (yr ae)) k_ hk_.2.1),(Kd.fresh' (Kd.R_lt (yr al)) k_ hk_.2.1),(Kd.fresh' (Kd.N_lt (yr ao)) k_ hk_.2.1),(Kd.fresh' (Kd.N_lt (yr ap)) k_ hk_.2.1),(Kd.fresh' (Kd.R_lt (yr aq)) k_ hk_.2.1),(Kd.fresh' (Kd.N_lt (yr ay)) k_ hk_.2.1),(Kd.freshB (yk ag) k_ hk_.2.1),(Kd.freshB (yk am) k_ hk_.2.1)⟩)) (zE yhb));have aA:=zm (Kd.N_lower (Kd.N_mono (ok' := fun k_=>some k_≠(dW : Value).ownBlock∧some k_≠(.slice aK af.length aI : Value).ownBlock∧some k_≠(.slice aJ ac.length aH : Value).ownBlock∧some k_≠(.slice aM aD.length aN : Value).ownBlock∧some k_≠(.slice aW aE.length aX : Value).ownBlock∧some k_≠(.slice aY aG.length aZ : Value).ownBlock∧some k_≠(.slice ba aT.length bb : Value).ownBlock∧some k_≠(.slice bi a7.length bj : Value).ownBlock∧k_≠av∧k_≠aw) (Kd.R_N (Kd.R_bound ho1)) (fun k_ hk_=>⟨hk_.1,(Kd.fresh' (Kd.N_lt (yr aa)) k_ hk_.2.1),(Kd.fresh' (Kd.N_lt (yr ae)) k_ hk_.2.1),(Kd.fresh' (Kd.R_lt (yr al)) k_ hk_.2.1),(Kd.fresh' (Kd.N_lt (yr ao)) k_ hk_.2.1),(Kd.fresh' (Kd.N_lt (yr ap)) k_ hk_.2.1),(Kd.fresh' (Kd.R_lt (yr aq)) k_ hk_.2.1),(Kd.fresh' (Kd.N_lt (yr ay)) k_ hk_.2.1),(Kd.freshB (yk ag) k_ hk_.2.1),(Kd.freshB (yk am) k_ hk_.2.1)⟩)) (zE yhb));replace aa:=zm (Kd.N_mono (Kd.N_told (Kd.N_told (Kd.N_old (yr aa) hb) (Kd.S_base ho0)) (Kd.R_base ho1)) (fun _ h_=>h_.1));replace ae:=zm (Kd.N_mono (Kd.N_told (Kd.N_told (Kd.N_old (yr ae) hb) (Kd.S_base ho0)) (Kd.R_base ho1)) (fun _ h_=>h_.1));replace al:=yRb al hb;replace ao:=zm (Kd.N_mono (Kd.N_told (Kd.N_told (Kd.N_old (yr ao) hb) (Kd.S_base ho0)) (Kd.R_base ho1)) (fun _ h_=>h_.1));replace ap:=zm (Kd.N_mono (Kd.N_told (Kd.N_told (Kd.N_old (yr ap) hb) (Kd.S_base ho0)) (Kd.R_base ho1)) (fun _ h_=>h_.1));replace aq:=yRb aq hb;replace ay:=zm (Kd.N_mono (Kd.N_told (Kd.N_told (Kd.N_old (yr ay) hb) (Kd.S_base ho0)) (Kd.R_base ho1)) (fun _ h_=>h_.1));replace ag:=ybb ag hb;replace am:=ybb am hb;replace HB:=ybs hb;(try clear hb);(try clear ho0);(try clear ho1))|((with_reducible refine gate_dst (N:=6) rfl ?_);(try (refine gate_guard (by rfl) ?_;dsimp only));refine ybx 6 #[.bool false, .slice none 0 0, .slice none 0 0] 25 ?_;intro ax hg w63 hbox hb;replace aa:=zm (Kd.N_below (Kd.N_elderB (yr aa) ax (Nat.le_of_eq hg.symm)) hb);replace ae:=zm (Kd.N_below (Kd.N_elderB (yr ae) ax (Nat.le_of_eq hg.symm)) hb);replace al:=yRb al hb;replace ao:=zm (Kd.N_below (Kd.N_elderB (yr ao) ax (Nat.le_of_eq hg.symm)) hb);replace ap:=zm (Kd.N_below (Kd.N_elderB (yr ap) ax (Nat.le_of_eq hg.symm)) hb);replace aq:=yRb aq hb;replace ay:=zm (Kd.N_below (Kd.N_elderB (yr ay) ax (Nat.le_of_eq hg.symm)) hb);replace az:=zm (Kd.N_below (Kd.N_elderB (yr az) ax (Nat.le_of_eq hg.symm)) hb);replace aA:=zm (Kd.N_below (Kd.N_elderB (yr aA) ax (Nat.le_of_eq hg.symm)) hb);have aC:=zm (hbox);have ej:=ygw hg;have ek:=ygw hg;replace HB:=ybs hb;have b8:=ynl ag hg;have b9:=yng ag hg;replace ag:=ybb ag hb;have ca:=ynl am hg;have cb:=yng am hg;replace am:=ybb am hb;clear hb hbox hg;have:=b9.out;have:=b8.out;have:=cb.out;have:=ca.out;obtain ⟨_,_,_,_,_,_⟩:=yc3 aC;obtain ⟨bd,bf,dY⟩:=Kd.N_slice az.out;subst dY;obtain ⟨bk,bl,dZ⟩:=Kd.N_slice aA.out;subst dZ))
     obtain ⟨w69,hw_⟩ : ∃ x,x=(((w63.setCell ⟨ax,0,none⟩ (.bool false)).setCell ⟨ax,1,none⟩ (.slice bd aV.length bf)).setCell ⟨ax,2,none⟩ (.slice bk a9.length bl)):=⟨_,rfl⟩
     rw [← hw_]
     replace aa : Aside0 (Kd.N (Kd.slice 3 (Kd.int .i64)) 49 w69 w.heap.size (fun k_=>some k_≠(.slice aJ ac.length aH : Value).ownBlock∧some k_≠(.slice aM aD.length aN : Value).ownBlock∧some k_≠(.slice aW aE.length aX : Value).ownBlock∧some k_≠(.slice aY aG.length aZ : Value).ownBlock∧some k_≠(.slice ba aT.length bb : Value).ownBlock∧some k_≠(.slice bi a7.length bj : Value).ownBlock∧some k_≠(.slice bd aV.length bf : Value).ownBlock∧some k_≠(.slice bk a9.length bl : Value).ownBlock∧k_≠av∧k_≠aw∧k_≠ax) (.slice aK af.length aI) af):=⟨by rw [hw_];exact (yN0 aa)⟩
     replace ae : Aside0 (Kd.N (Kd.slice 49 (Kd.slice 3 (Kd.int .i64))) 22 w69 w.heap.size (fun k_=>some k_≠(.slice aK af.length aI : Value).ownBlock∧some k_≠(.slice aM aD.length aN : Value).ownBlock∧some k_≠(.slice aW aE.length aX : Value).ownBlock∧some k_≠(.slice aY aG.length aZ : Value).ownBlock∧some k_≠(.slice ba aT.length bb : Value).ownBlock∧some k_≠(.slice bi a7.length bj : Value).ownBlock∧some k_≠(.slice bd aV.length bf : Value).ownBlock∧some k_≠(.slice bk a9.length bl : Value).ownBlock∧k_≠av∧k_≠aw∧k_≠ax) (.slice aJ ac.length aH) ac):=⟨by rw [hw_];exact (yN0 ae)⟩
     replace al : Aside0 (Kd.R (Kd.int .u8) 5 w69 w.heap.size (fun k_=>some k_≠(.slice ba aT.length bb : Value).ownBlock) (.slice aM aD.length aN) aD):=⟨by rw [hw_];exact (yR1 al aC)⟩
     replace ao : Aside0 (Kd.N (Kd.slice 3 (Kd.int .i64)) 49 w69 w.heap.size (fun k_=>some k_≠(.slice aK af.length aI : Value).ownBlock∧some k_≠(.slice aJ ac.length aH : Value).ownBlock∧some k_≠(.slice aM aD.length aN : Value).ownBlock∧some k_≠(.slice aY aG.length aZ : Value).ownBlock∧some k_≠(.slice ba aT.length bb : Value).ownBlock∧some k_≠(.slice bi a7.length bj : Value).ownBlock∧some k_≠(.slice bd aV.length bf : Value).ownBlock∧some k_≠(.slice bk a9.length bl : Value).ownBlock∧k_≠av∧k_≠aw∧k_≠ax) (.slice aW aE.length aX) aE):=⟨by rw [hw_];exact (yN0 ao)⟩
     replace ap : Aside0 (Kd.N (Kd.slice 49 (Kd.slice 3 (Kd.int .i64))) 22 w69 w.heap.size (fun k_=>some k_≠(.slice aK af.length aI : Value).ownBlock∧some k_≠(.slice aJ ac.length aH : Value).ownBlock∧some k_≠(.slice aM aD.length aN : Value).ownBlock∧some k_≠(.slice aW aE.length aX : Value).ownBlock∧some k_≠(.slice ba aT.length bb : Value).ownBlock∧some k_≠(.slice bi a7.length bj : Value).ownBlock∧some k_≠(.slice bd aV.length bf : Value).ownBlock∧some k_≠(.slice bk a9.length bl : Value).ownBlock∧k_≠av∧k_≠aw∧k_≠ax) (.slice aY aG.length aZ) aG):=⟨by rw [hw_];exact (yN0 ap)⟩
     replace aq : Aside0 (Kd.R (Kd.int .u8) 5 w69 w.heap.size (fun k_=>some k_≠(.slice aM aD.length aN : Value).ownBlock) (.slice ba aT.length bb) aT):=⟨by rw [hw_];exact (yR1 aq aC)⟩
     replace ay : Aside0 (Kd.N (Kd.slice 3 (Kd.int .i64)) 49 w69 w.heap.size (fun k_=>some k_≠(.slice aK af.length aI : Value).ownBlock∧some k_≠(.slice aJ ac.length aH : Value).ownBlock∧some k_≠(.slice aM aD.length aN : Value).ownBlock∧some k_≠(.slice aW aE.length aX : Value).ownBlock∧some k_≠(.slice aY aG.length aZ : Value).ownBlock∧some k_≠(.slice ba aT.length bb : Value).ownBlock∧some k_≠(.slice bd aV.length bf : Value).ownBlock∧some k_≠(.slice bk a9.length bl : Value).ownBlock∧k_≠av∧k_≠aw∧k_≠ax) (.slice bi a7.length bj) a7):=⟨by rw [hw_];exact (yN0 ay)⟩
     replace az : Aside0 (Kd.N (Kd.slice 3 (Kd.int .i64)) 49 w69 w.heap.size (fun k_=>some k_≠(.slice aK af.length aI : Value).ownBlock∧some k_≠(.slice aJ ac.length aH : Value).ownBlock∧some k_≠(.slice aM aD.length aN : Value).ownBlock∧some k_≠(.slice aW aE.length aX : Value).ownBlock∧some k_≠(.slice aY aG.length aZ : Value).ownBlock∧some k_≠(.slice ba aT.length bb : Value).ownBlock∧some k_≠(.slice bi a7.length bj : Value).ownBlock∧some k_≠(.slice bk a9.length bl : Value).ownBlock∧k_≠av∧k_≠aw∧k_≠ax) (.slice bd aV.length bf) aV):=⟨by rw [hw_];exact (yN0 az)⟩
     replace aA : Aside0 (Kd.N (Kd.slice 49 (Kd.slice 3 (Kd.int .i64))) 22 w69 w.heap.size (fun k_=>some k_≠(.slice aK af.length aI : Value).ownBlock∧some k_≠(.slice aJ ac.length aH : Value).ownBlock∧some k_≠(.slice aM aD.length aN : Value).ownBlock∧some k_≠(.slice aW aE.length aX : Value).ownBlock∧some k_≠(.slice aY aG.length aZ : Value).ownBlock∧some k_≠(.slice ba aT.length bb : Value).ownBlock∧some k_≠(.slice bi a7.length bj : Value).ownBlock∧some k_≠(.slice bd aV.length bf : Value).ownBlock∧k_≠av∧k_≠aw∧k_≠ax) (.slice bk a9.length bl) a9):=⟨by rw [hw_];exact (yN0 aA)⟩
     replace ag : Aside0 (w69.heap[av]? = some (.cells #[.bool true, .slice aK af.length aI, .slice aJ ac.length aH] 25 (0,0))):=⟨by rw [hw_];exact (yk ag)⟩
     replace am : Aside0 (w69.heap[aw]? = some (.cells #[.bool bI, .slice aW aE.length aX, .slice aY aG.length aZ] 25 (0,0))):=⟨by rw [hw_];exact (yk am)⟩
     replace aC : Aside0 (w69.heap[ax]? = some (.cells #[.bool false, .slice bd aV.length bf, .slice bk a9.length bl] 25 (0,0))):=⟨by rw [hw_];exact (ykp aC)⟩
     replace HB : Aside0 (Below w.heap.size w w69):=⟨by rw [hw_];exact (yhb)⟩
     clear hw_
     replace aa:=zm (Kd.N_drew aa.out)
     replace ae:=zm (Kd.N_drew ae.out)
     replace al:=zm (zq al.out)
     replace ao:=zm (Kd.N_drew ao.out)
     replace ap:=zm (Kd.N_drew ap.out)
     replace aq:=zm (zq aq.out)
     replace ay:=zm (Kd.N_drew ay.out)
     replace az:=zm (Kd.N_drew az.out)
     replace aA:=zm (Kd.N_drew aA.out)
     replace ag:=zm (zj ag.out)
     replace am:=zm (zj am.out)
     replace aC:=zm (zj aC.out)
     replace HB:=zm (zf HB.out)
     refine yst (fun w' => w'.cell? ⟨aw,0,none⟩=some (.bool bI)∧w'.cell? ⟨aw,1,none⟩=some (.slice aW aE.length aX)∧w'.cell? ⟨aw,2,none⟩=some (.slice aY aG.length aZ)∧w'.cell? ⟨av,0,none⟩=some (.bool true)∧w'.cell? ⟨av,1,none⟩=some (.slice aK af.length aI)∧w'.cell? ⟨av,2,none⟩=some (.slice aJ ac.length aH)∧w'.cell? ⟨ax,0,none⟩=some (.bool false)∧w'.cell? ⟨ax,1,none⟩=some (.slice bd aV.length bf)∧w'.cell? ⟨ax,2,none⟩=some (.slice bk a9.length bl)) [] 39 w13_knows.tab5 w13_knows.bits5 (fun hHeld HT_ HW_ => ?_)
     generalize w69.drew=w70 at aa ae al ao ap aq ay az aA ag am aC HB hHeld ⊢
     refine yp 0 35 HT_ ?_
     refine yp 1 36 HT_ ?_
     refine yp 2 37 HT_ ?_
     refine yp 3 38 HT_ ?_
     refine yp 4 39 HT_ ?_
     refine yp 5 40 HT_ ?_
     refine yp 6 41 HT_ ?_
     refine yp 7 42 HT_ ?_
     refine yl 8 43 HT_ HW_ hHeld ?_
     refine yl 10 45 HT_ HW_ hHeld ?_
     refine yw 9 44 HT_ (fun K hK => ?_)
     refine ygs Try.func14 #[.agg #[.bool bI, .slice aW aE.length aX, .slice aY aG.length aZ]] ?_
     with_reducible refine (w13_As.calls bI (fun k_=>(some k_≠(.slice aK af.length aI : Value).ownBlock∧(some k_≠(.slice aJ ac.length aH : Value).ownBlock∧(some k_≠(.slice aM aD.length aN : Value).ownBlock∧(some k_≠(.slice aY aG.length aZ : Value).ownBlock∧(some k_≠(.slice ba aT.length bb : Value).ownBlock∧(some k_≠(.slice bi a7.length bj : Value).ownBlock∧(some k_≠(.slice bd aV.length bf : Value).ownBlock∧(some k_≠(.slice bk a9.length bl : Value).ownBlock∧(k_≠av∧(k_≠aw∧k_≠ax))))))))))) _ _ aE (fun k_=>(some k_≠(.slice aK af.length aI : Value).ownBlock∧(some k_≠(.slice aJ ac.length aH : Value).ownBlock∧(some k_≠(.slice aM aD.length aN : Value).ownBlock∧(some k_≠(.slice aW aE.length aX : Value).ownBlock∧(some k_≠(.slice ba aT.length bb : Value).ownBlock∧(some k_≠(.slice bi a7.length bj : Value).ownBlock∧(some k_≠(.slice bd aV.length bf : Value).ownBlock∧(some k_≠(.slice bk a9.length bl : Value).ownBlock∧(k_≠av∧(k_≠aw∧k_≠ax))))))))))) _ _ aG cO cP cQ _ ?bg ?bh A6.out).mono ?_
     (case bg=>exact Kd.N_V (ao.out))
     (case bh=>exact Kd.N_V (ap.out))
     rintro e w71 ⟨ey,ez,rfl,ho0,ho1,hb⟩
     refine ⟨_,rfl, ?_⟩
     replace ao:=yNb ao hb
     replace ap:=yNb ap hb
     have bn:=yho (fun k_=>some k_≠(.slice aK af.length aI : Value).ownBlock∧some k_≠(.slice aJ ac.length aH : Value).ownBlock∧some k_≠(.slice aM aD.length aN : Value).ownBlock∧some k_≠(.slice ba aT.length bb : Value).ownBlock∧some k_≠(.slice bi a7.length bj : Value).ownBlock∧some k_≠(.slice bd aV.length bf : Value).ownBlock∧some k_≠(.slice bk a9.length bl : Value).ownBlock∧k_≠av∧k_≠aw∧k_≠ax) ho0 (fun k_ hk_=>⟨yoN aa hk_,yoN ae hk_,yoR al hk_,yoR aq hk_,yoN ay hk_,yoN az hk_,yoN aA hk_,yoB ag hk_,yoB am hk_,yoB aC hk_⟩)
     have bo:=yho (fun k_=>some k_≠(.slice aK af.length aI : Value).ownBlock∧some k_≠(.slice aJ ac.length aH : Value).ownBlock∧some k_≠(.slice aM aD.length aN : Value).ownBlock∧some k_≠(.slice ba aT.length bb : Value).ownBlock∧some k_≠(.slice bi a7.length bj : Value).ownBlock∧some k_≠(.slice bd aV.length bf : Value).ownBlock∧some k_≠(.slice bk a9.length bl : Value).ownBlock∧k_≠av∧k_≠aw∧k_≠ax) ho1 (fun k_ hk_=>⟨yoN aa hk_,yoN ae hk_,yoR al hk_,yoR aq hk_,yoN ay hk_,yoN az hk_,yoN aA hk_,yoB ag hk_,yoB am hk_,yoB aC hk_⟩)
     replace aa:=yNb aa hb
     replace ae:=yNb ae hb
     replace al:=yRb al hb
     replace aq:=yRb aq hb
     replace ay:=yNb ay hb
     replace az:=yNb az hb
     replace aA:=yNb aA hb
     replace ag:=ybb ag hb
     replace am:=ybb am hb
     replace aC:=ybb aC hb
     replace HB:=ybs hb
     (try clear hb)
     (try clear ho0)
     (try clear ho1)
     refine hK.out _ _ yH (fun hHeld => ?_)
     clear hK K
     refine ym (some 44) ?_
     refine yw 11 46 HT_ (fun K hK => ?_)
     refine ygs Try.func14 #[.agg #[.bool true, .slice aK af.length aI, .slice aJ ac.length aH]] ?_
     with_reducible refine (w13_As.calls true (fun k_=>(some k_≠(.slice aJ ac.length aH : Value).ownBlock∧(some k_≠(.slice aM aD.length aN : Value).ownBlock∧(some k_≠(.slice aW aE.length aX : Value).ownBlock∧(some k_≠(.slice aY aG.length aZ : Value).ownBlock∧(some k_≠(.slice ba aT.length bb : Value).ownBlock∧(some k_≠(.slice bi a7.length bj : Value).ownBlock∧(some k_≠(.slice bd aV.length bf : Value).ownBlock∧(some k_≠(.slice bk a9.length bl : Value).ownBlock∧(k_≠av∧(k_≠aw∧k_≠ax))))))))))) _ _ af (fun k_=>(some k_≠(.slice aK af.length aI : Value).ownBlock∧(some k_≠(.slice aM aD.length aN : Value).ownBlock∧(some k_≠(.slice aW aE.length aX : Value).ownBlock∧(some k_≠(.slice aY aG.length aZ : Value).ownBlock∧(some k_≠(.slice ba aT.length bb : Value).ownBlock∧(some k_≠(.slice bi a7.length bj : Value).ownBlock∧(some k_≠(.slice bd aV.length bf : Value).ownBlock∧(some k_≠(.slice bk a9.length bl : Value).ownBlock∧(k_≠av∧(k_≠aw∧k_≠ax))))))))))) _ _ ac cR cS cT _ ?bg ?bh A7.out).mono ?_
     (case bg=>exact Kd.N_V (aa.out))
     (case bh=>exact Kd.N_V (ae.out))
     rintro e w72 ⟨eA,eB,rfl,ho0,ho1,hb⟩
     refine ⟨_,rfl, ?_⟩
     replace aa:=yNb aa hb
     replace ae:=yNb ae hb
     replace bn:=yVb bn hb
     replace bo:=yVb bo hb
     have bs:=yho (fun k_=>some k_≠(.slice aM aD.length aN : Value).ownBlock∧some k_≠(.slice aW aE.length aX : Value).ownBlock∧some k_≠(.slice aY aG.length aZ : Value).ownBlock∧some k_≠(.slice ba aT.length bb : Value).ownBlock∧some k_≠(.slice bi a7.length bj : Value).ownBlock∧some k_≠(.slice bd aV.length bf : Value).ownBlock∧some k_≠(.slice bk a9.length bl : Value).ownBlock∧k_≠av∧k_≠aw∧k_≠ax) ho0 (fun k_ hk_=>⟨yoR al hk_,yoN ao hk_,yoN ap hk_,yoR aq hk_,yoN ay hk_,yoN az hk_,yoN aA hk_,yoB ag hk_,yoB am hk_,yoB aC hk_⟩)
     have bu:=yho (fun k_=>some k_≠(.slice aM aD.length aN : Value).ownBlock∧some k_≠(.slice aW aE.length aX : Value).ownBlock∧some k_≠(.slice aY aG.length aZ : Value).ownBlock∧some k_≠(.slice ba aT.length bb : Value).ownBlock∧some k_≠(.slice bi a7.length bj : Value).ownBlock∧some k_≠(.slice bd aV.length bf : Value).ownBlock∧some k_≠(.slice bk a9.length bl : Value).ownBlock∧k_≠av∧k_≠aw∧k_≠ax) ho1 (fun k_ hk_=>⟨yoR al hk_,yoN ao hk_,yoN ap hk_,yoR aq hk_,yoN ay hk_,yoN az hk_,yoN aA hk_,yoB ag hk_,yoB am hk_,yoB aC hk_⟩)
     replace al:=yRb al hb
     replace ao:=yNb ao hb
     replace ap:=yNb ap hb
     replace aq:=yRb aq hb
     replace ay:=yNb ay hb
     replace az:=yNb az hb
     replace aA:=yNb aA hb
     replace ag:=ybb ag hb
     replace am:=ybb am hb
     replace aC:=ybb aC hb
     replace HB:=ybs hb
     (try clear hb)
     (try clear ho0)
     (try clear ho1)
     obtain ⟨d5,d6,dq⟩:=Kd.V_slice bn.out
     (first|subst dq|(injection dq with f1_ f2_ f3_;have f4_:=f1_.symm;have f5_:=f3_.symm;clear f1_ f2_ f3_;subst f4_;subst f5_))
     obtain ⟨d7,d8,dr⟩:=Kd.V_slice bo.out
     (first|subst dr|(injection dr with f1_ f2_ f3_;have f4_:=f1_.symm;have f5_:=f3_.symm;clear f1_ f2_ f3_;subst f4_;subst f5_))
     obtain ⟨d9,ea,dt⟩:=Kd.V_slice bs.out
     (first|subst dt|(injection dt with f1_ f2_ f3_;have f4_:=f1_.symm;have f5_:=f3_.symm;clear f1_ f2_ f3_;subst f4_;subst f5_))
     obtain ⟨eb,ec,du⟩:=Kd.V_slice bu.out
     (first|subst du|(injection du with f1_ f2_ f3_;have f4_:=f1_.symm;have f5_:=f3_.symm;clear f1_ f2_ f3_;subst f4_;subst f5_))
     refine hK.out _ _ yH (fun hHeld => ?_)
     clear hK K
     refine ym (some 46) ?_
     refine yw 12 47 HT_ (fun K hK => ?_)
     refine ygs Try.func22 #[.agg #[.bool cO, .slice d5 cP.length d6, .slice d7 cQ.length d8], .agg #[.bool cR, .slice d9 cS.length ea, .slice eb cT.length ec]] ?_
     with_reducible refine (r13_Same.calls k cO _ _ cP _ _ cQ cR _ _ cS _ _ cT true _ ?bg ?bh ?bq ?br ?cJ ?cK ?dv ?dw A8.out).mono ?_
     (case bg=>exact yce (Kd.V_reads' bn.out).2.2)
     (case bh=>exact (Kd.V_reads' bn.out).2.1)
     (case bq=>exact yce (Kd.V_reads' bo.out).2.2)
     (case br=>exact (Kd.V_reads' bo.out).2.1)
     (case cJ=>exact yce (Kd.V_reads' bs.out).2.2)
     (case cK=>exact (Kd.V_reads' bs.out).2.1)
     (case dv=>exact yce (Kd.V_reads' bu.out).2.2)
     (case dw=>exact (Kd.V_reads' bu.out).2.1)
     rintro e w77 ⟨rfl,hb⟩
     refine ⟨_,rfl, ?_⟩
     replace aa:=yNb aa hb
     replace ae:=yNb ae hb
     replace al:=yRb al hb
     replace ao:=yNb ao hb
     replace ap:=yNb ap hb
     replace aq:=yRb aq hb
     replace ay:=yNb ay hb
     replace az:=yNb az hb
     replace aA:=yNb aA hb
     replace bn:=yVb bn hb
     replace bo:=yVb bo hb
     replace bs:=yVb bs hb
     replace bu:=yVb bu hb
     replace ag:=ybb ag hb
     replace am:=ybb am hb
     replace aC:=ybb aC hb
     replace HB:=ybs hb
     (try clear hb)
     refine hK.out _ _ yH (fun hHeld => ?_)
     clear hK K
     refine ym (some 47) ?_
     refine yp 13 48 HT_ ?_
     refine yp 14 49 HT_ ?_
     refine yp 15 50 HT_ ?_
     refine yp 16 51 HT_ ?_
     refine yp 17 52 HT_ ?_
     refine yp 18 53 HT_ ?_
     refine yp 19 54 HT_ ?_
     refine yl 20 55 HT_ HW_ hHeld ?_
     refine yp 21 56 HT_ ?_
     refine yp 22 57 HT_ ?_
     refine yp 23 58 HT_ ?_
     refine yp 24 59 HT_ ?_
     refine yl 25 60 HT_ HW_ hHeld ?_
     refine yw 26 61 HT_ (fun K hK => ?_)
     refine Kd.R_lit_step (Kd.int .i64) _ 3 ?hg (N:=61) ?hd (xs:=([6,0,0,1,2] : List Int)) (inner := [.int .i64 6, .int .i64 0, .int .i64 0, .int .i64 1, .int .i64 2]) (ok:=fun _=>True) (okp:=fun _=>True) ?hr ?hp (fun _ hk=>hk) trivial (Below.refl _ _) (Nat.le_refl _) (by simp) ?_;(case hd=>rfl);(case hg=>rfl);(case hr=>first|(go_simp;done)|(go_simp;rfl));(case hp=>exact (Reps.one (show Kd.M (Kd.int .i64) _ _ _ 6 [.int .i64 6] from rfl) (Reps.one (show Kd.M (Kd.int .i64) _ _ _ 0 [.int .i64 0] from rfl) (Reps.one (show Kd.M (Kd.int .i64) _ _ _ 0 [.int .i64 0] from rfl) (Reps.one (show Kd.M (Kd.int .i64) _ _ _ 1 [.int .i64 1] from rfl) (Reps.one (show Kd.M (Kd.int .i64) _ _ _ 2 [.int .i64 2] from rfl) (Reps.none _ _)))))))
     intro eC w78 bv hb hg_ hnew_
     clear hg_ hnew_
     (first|rw [← cG.out] at bv|(simp only [Int.reduceToNat] at bv;rw [← cG.out] at bv)|rw [show (List.replicate (Int.toNat 11) (0 : Int))=bR from cG.out.symm] at bv)
     replace aa:=zm (Kd.N_elder' (yr aa) (Kd.R_base bv) hb)
     replace ae:=zm (Kd.N_elder' (yr ae) (Kd.R_base bv) hb)
     replace al:=yRb al hb
     replace ao:=zm (Kd.N_elder' (yr ao) (Kd.R_base bv) hb)
     replace ap:=zm (Kd.N_elder' (yr ap) (Kd.R_base bv) hb)
     replace aq:=yRb aq hb
     replace ay:=zm (Kd.N_elder' (yr ay) (Kd.R_base bv) hb)
     replace az:=zm (Kd.N_elder' (yr az) (Kd.R_base bv) hb)
     replace aA:=zm (Kd.N_elder' (yr aA) (Kd.R_base bv) hb)
     replace bn:=zm (Kd.V_elder' (yr bn) (Kd.R_base bv) hb)
     replace bo:=zm (Kd.V_elder' (yr bo) (Kd.R_base bv) hb)
     replace bs:=zm (Kd.V_elder' (yr bs) (Kd.R_base bv) hb)
     replace bu:=zm (Kd.V_elder' (yr bu) (Kd.R_base bv) hb)
     have bZ:=zm (Kd.R_lower bv (zE yhb))
     replace ag:=ybb ag hb
     replace am:=ybb am hb
     replace aC:=ybb aC hb
     replace HB:=ybs hb
     clear hb bv
     obtain ⟨dx,dy,dz⟩:=Kd.R_slice bZ.out
     (first|subst dz|(injection dz with f1_ f2_ f3_;have f4_:=f1_.symm;have f5_:=f3_.symm;clear f1_ f2_ f3_;subst f4_;subst f5_))
     refine hK.out _ _ yH (fun hHeld => ?_)
     clear hK K
     refine ym (some 61) ?_
     refine yw 27 62 HT_ (fun K hK => ?_)
     refine Kd.N_lit_step (Kd.slice 3 (Kd.int .i64)) _ 49 ?hg (N' := 62) ?hd (xs:=([bR] : List (List Int))) (inner := [.slice dx bR.length dy]) (ok:=(fun k_=>some k_≠(.slice aK af.length aI : Value).ownBlock∧some k_≠(.slice aJ ac.length aH : Value).ownBlock∧some k_≠(.slice aM aD.length aN : Value).ownBlock∧some k_≠(.slice aW aE.length aX : Value).ownBlock∧some k_≠(.slice aY aG.length aZ : Value).ownBlock∧some k_≠(.slice ba aT.length bb : Value).ownBlock∧some k_≠(.slice bi a7.length bj : Value).ownBlock∧some k_≠(.slice bd aV.length bf : Value).ownBlock∧some k_≠(.slice bk a9.length bl : Value).ownBlock∧k_≠av∧k_≠aw∧k_≠ax)) (okp:=(fun k_=>some k_≠(.slice aK af.length aI : Value).ownBlock∧some k_≠(.slice aJ ac.length aH : Value).ownBlock∧some k_≠(.slice aM aD.length aN : Value).ownBlock∧some k_≠(.slice aW aE.length aX : Value).ownBlock∧some k_≠(.slice aY aG.length aZ : Value).ownBlock∧some k_≠(.slice ba aT.length bb : Value).ownBlock∧some k_≠(.slice bi a7.length bj : Value).ownBlock∧some k_≠(.slice bd aV.length bf : Value).ownBlock∧some k_≠(.slice bk a9.length bl : Value).ownBlock∧k_≠av∧k_≠aw∧k_≠ax)) ?hr ?hp (fun _ hk=>hk) ((show ∀ k_,w78.heap.size≤k_→(fun k_=>some k_≠(.slice aK af.length aI : Value).ownBlock∧some k_≠(.slice aJ ac.length aH : Value).ownBlock∧some k_≠(.slice aM aD.length aN : Value).ownBlock∧some k_≠(.slice aW aE.length aX : Value).ownBlock∧some k_≠(.slice aY aG.length aZ : Value).ownBlock∧some k_≠(.slice ba aT.length bb : Value).ownBlock∧some k_≠(.slice bi a7.length bj : Value).ownBlock∧some k_≠(.slice bd aV.length bf : Value).ownBlock∧some k_≠(.slice bk a9.length bl : Value).ownBlock∧k_≠av∧k_≠aw∧k_≠ax) k_ from fun k_ hk=>⟨Kd.fresh' (Kd.N_lt (yr aa)) k_ hk,Kd.fresh' (Kd.N_lt (yr ae)) k_ hk,Kd.fresh' (Kd.R_lt (yr al)) k_ hk,Kd.fresh' (Kd.N_lt (yr ao)) k_ hk,Kd.fresh' (Kd.N_lt (yr ap)) k_ hk,Kd.fresh' (Kd.R_lt (yr aq)) k_ hk,Kd.fresh' (Kd.N_lt (yr ay)) k_ hk,Kd.fresh' (Kd.N_lt (yr az)) k_ hk,Kd.fresh' (Kd.N_lt (yr aA)) k_ hk,Kd.freshB (yk ag) k_ hk,Kd.freshB (yk am) k_ hk,Kd.freshB (yk aC) k_ hk⟩) _ (Nat.le_refl _)) (Below.refl _ _) (Nat.le_refl _) (by simp) ?_;(case hd=>rfl);(case hg=>rfl);(case hr=>first|(go_simp;done)|(go_simp;rfl));(case hp=>exact (Reps.one (show Kd.FK (Kd.slice 3 (Kd.int .i64)) _ _ bR [.slice dx bR.length dy] from (Kd.FK_slice_mk (Kd.R_reads' (zG (ok' := (fun k_=>some k_≠(.slice aK af.length aI : Value).ownBlock∧some k_≠(.slice aJ ac.length aH : Value).ownBlock∧some k_≠(.slice aM aD.length aN : Value).ownBlock∧some k_≠(.slice aW aE.length aX : Value).ownBlock∧some k_≠(.slice aY aG.length aZ : Value).ownBlock∧some k_≠(.slice ba aT.length bb : Value).ownBlock∧some k_≠(.slice bi a7.length bj : Value).ownBlock∧some k_≠(.slice bd aV.length bf : Value).ownBlock∧some k_≠(.slice bk a9.length bl : Value).ownBlock∧k_≠av∧k_≠aw∧k_≠ax)) (Kd.R_types (Kd.R_types (Kd.R_types (Kd.R_apart' (Kd.R_apart' (Kd.R_apart' (Kd.R_apart' (Kd.R_apart' (Kd.R_apart' (Kd.R_apart' (Kd.R_apart' (Kd.R_apart' (bZ.out) (Kd.N_typed aa.out) (by decide)) (Kd.N_typed ae.out) (by decide)) (Kd.R_typed al.out) (by decide)) (Kd.N_typed ao.out) (by decide)) (Kd.N_typed ap.out) (by decide)) (Kd.R_typed aq.out) (by decide)) (Kd.N_typed ay.out) (by decide)) (Kd.N_typed az.out) (by decide)) (Kd.N_typed aA.out) (by decide)) ag.out (by decide)) am.out (by decide)) aC.out (by decide)) (fun k_ hk=>⟨hk.1.1.1.1.1.1.1.1.1.1.1.2,⟨hk.1.1.1.1.1.1.1.1.1.1.2,⟨hk.1.1.1.1.1.1.1.1.1.2,⟨hk.1.1.1.1.1.1.1.1.2,⟨hk.1.1.1.1.1.1.1.2,⟨hk.1.1.1.1.1.1.2,⟨hk.1.1.1.1.1.2,⟨hk.1.1.1.1.2,⟨hk.1.1.1.2,⟨hk.1.1.2,⟨hk.1.2,hk.2⟩⟩⟩⟩⟩⟩⟩⟩⟩⟩⟩))).2.1 (Kd.R_F (zG (ok' := (fun k_=>some k_≠(.slice aK af.length aI : Value).ownBlock∧some k_≠(.slice aJ ac.length aH : Value).ownBlock∧some k_≠(.slice aM aD.length aN : Value).ownBlock∧some k_≠(.slice aW aE.length aX : Value).ownBlock∧some k_≠(.slice aY aG.length aZ : Value).ownBlock∧some k_≠(.slice ba aT.length bb : Value).ownBlock∧some k_≠(.slice bi a7.length bj : Value).ownBlock∧some k_≠(.slice bd aV.length bf : Value).ownBlock∧some k_≠(.slice bk a9.length bl : Value).ownBlock∧k_≠av∧k_≠aw∧k_≠ax)) (Kd.R_types (Kd.R_types (Kd.R_types (Kd.R_apart' (Kd.R_apart' (Kd.R_apart' (Kd.R_apart' (Kd.R_apart' (Kd.R_apart' (Kd.R_apart' (Kd.R_apart' (Kd.R_apart' (bZ.out) (Kd.N_typed aa.out) (by decide)) (Kd.N_typed ae.out) (by decide)) (Kd.R_typed al.out) (by decide)) (Kd.N_typed ao.out) (by decide)) (Kd.N_typed ap.out) (by decide)) (Kd.R_typed aq.out) (by decide)) (Kd.N_typed ay.out) (by decide)) (Kd.N_typed az.out) (by decide)) (Kd.N_typed aA.out) (by decide)) ag.out (by decide)) am.out (by decide)) aC.out (by decide)) (fun k_ hk=>⟨hk.1.1.1.1.1.1.1.1.1.1.1.2,⟨hk.1.1.1.1.1.1.1.1.1.1.2,⟨hk.1.1.1.1.1.1.1.1.1.2,⟨hk.1.1.1.1.1.1.1.1.2,⟨hk.1.1.1.1.1.1.1.2,⟨hk.1.1.1.1.1.1.2,⟨hk.1.1.1.1.1.2,⟨hk.1.1.1.1.2,⟨hk.1.1.1.2,⟨hk.1.1.2,⟨hk.1.2,hk.2⟩⟩⟩⟩⟩⟩⟩⟩⟩⟩⟩))))) (Reps.none _ _)))
     intro eD w81 bw hb hg_ hnew_
     clear hg_ hnew_
     (first|rw [← cI.out] at bw|(simp only [Int.reduceToNat] at bw;rw [← cI.out] at bw)|rw [show (List.replicate (Int.toNat 11) (0 : Int))=cN from cI.out.symm] at bw)
     replace aa:=zm (Kd.N_elder' (yr aa) (Kd.N_base bw) hb)
     replace ae:=zm (Kd.N_elder' (yr ae) (Kd.N_base bw) hb)
     replace al:=yRb al hb
     replace ao:=zm (Kd.N_elder' (yr ao) (Kd.N_base bw) hb)
     replace ap:=zm (Kd.N_elder' (yr ap) (Kd.N_base bw) hb)
     replace aq:=yRb aq hb
     replace ay:=zm (Kd.N_elder' (yr ay) (Kd.N_base bw) hb)
     replace az:=zm (Kd.N_elder' (yr az) (Kd.N_base bw) hb)
     replace aA:=zm (Kd.N_elder' (yr aA) (Kd.N_base bw) hb)
     replace bn:=zm (Kd.V_elder' (yr bn) (Kd.N_base bw) hb)
     replace bo:=zm (Kd.V_elder' (yr bo) (Kd.N_base bw) hb)
     replace bs:=zm (Kd.V_elder' (yr bs) (Kd.N_base bw) hb)
     replace bu:=zm (Kd.V_elder' (yr bu) (Kd.N_base bw) hb)
     have bM:=zm (Kd.N_lower bw (zE yhb))
     replace ag:=ybb ag hb
     replace am:=ybb am hb
     replace aC:=ybb aC hb
     replace HB:=ybs hb
     clear bZ hb bw
     obtain ⟨ed,ee,dA⟩:=Kd.N_slice bM.out
     (first|subst dA|(injection dA with f1_ f2_ f3_;have f4_:=f1_.symm;have f5_:=f3_.symm;clear f1_ f2_ f3_;subst f4_;subst f5_))
     refine hK.out _ _ yH (fun hHeld => ?_)
     clear hK K
     refine ym (some 62) ?_
     refine yw 28 63 HT_ (fun K hK => ?_)
     refine ygs Try.func24 #[.slice bd aV.length bf, .slice ed cN.length ee] ?_
     with_reducible refine (r12_Same.calls k _ _ aV _ _ cN true _ ?bg ?bh ?bq ?br A12.out).mono ?_
     (case bg=>exact yce (Kd.N_reads' az.out).2.2)
     (case bh=>exact (Kd.N_reads' az.out).2.1)
     (case bq=>exact yce (Kd.N_reads' bM.out).2.2)
     (case br=>exact (Kd.N_reads' bM.out).2.1)
     rintro e w' ⟨rfl,⟨nd,rfl⟩⟩
     refine ⟨_,rfl, ?_⟩
     refine hK.out _ _ yH (fun hHeld => ?_)
     clear hK K
     refine ym (some 63) ?_
     refine yp 29 64 HT_ ?_
     refine yp 30 65 HT_ ?_
     refine yp 31 66 HT_ ?_
     refine yp 32 67 HT_ ?_
     refine yp 33 68 HT_ ?_
     refine yp 34 69 HT_ ?_
     refine yl 35 70 HT_ HW_ hHeld ?_
     refine yw 36 71 HT_ (fun K hK => ?_)
     refine ygs Try.func15 #[.int .i64 11, .int .i64 1, .agg #[.bool true, .slice aK af.length aI, .slice aJ ac.length aH]] ?_
     with_reducible refine (cpack_Right.calls k 11 1 true _ _ af _ _ ac aQ _ ?bg ?bh ?bq ?br A15.out).mono ?_
     (case bg=>exact yce (Kd.N_reads' aa.out).2.2)
     (case bh=>exact (Kd.N_reads' aa.out).2.1)
     (case bq=>exact yce (Kd.N_reads' ae.out).2.2)
     (case br=>exact (Kd.N_reads' ae.out).2.1)
     rintro e w84 ⟨rfl,hb⟩
     refine ⟨_,rfl, ?_⟩
     replace aa:=yNb aa hb
     replace ae:=yNb ae hb
     replace al:=yRb al hb
     replace ao:=yNb ao hb
     replace ap:=yNb ap hb
     replace aq:=yRb aq hb
     replace ay:=yNb ay hb
     replace az:=yNb az hb
     replace aA:=yNb aA hb
     replace bn:=yVb bn hb
     replace bo:=yVb bo hb
     replace bs:=yVb bs hb
     replace bu:=yVb bu hb
     replace bM:=yNb bM hb
     replace ag:=ybb ag hb
     replace am:=ybb am hb
     replace aC:=ybb aC hb
     replace HB:=ybs hb
     (try clear hb)
     refine hK.out _ _ yH (fun hHeld => ?_)
     clear hK K
     refine ym (some 71) ?_
     refine yp 37 72 HT_ ?_
     refine yp 38 0 HT_ ?_
     refine done_ (done_of HT_.out (by kernel_rfl)) ?_
     try go_wp2
     go_ret
     exact ⟨ye,yhb⟩
    rw [if_neg c14] at H
    obtain ⟨cW,cX⟩:=yF c14
    exact absurd H (by simp)
   rw [if_neg c10] at H
   obtain ⟨cU,cV⟩:=yF c10
   exact absurd H (by simp)
  rw [if_neg c5] at H
  obtain ⟨dD,dE⟩:=yF c5
  exact absurd H (by simp)
 rw [if_neg c4] at H
 obtain ⟨dB,dC⟩:=yF c4
 exact absurd H (by simp)
def w13_PackBack.f (k : Nat) (a0 : Int) (a1 : Int) (am : Bool) (ai : List (List Int)) (aj : List (List (List Int))) (l3 : List (List Int)) : Option (Bool):=(w13_great.f k am ai aj l3).bind fun ba=>(if ba=true then ((w13_knows.f k).bind fun bb=>(some bb)) else ((cpack_Write.f k a0 a1 am ai aj l3).bind fun aN=>(if aN.2=0 then ((cpack_Read.f k a0 a1 aN.1 l3).bind fun aQ=>(if (aN.1.length : Int)=a0 then ((w13_As.f am ai aj).bind fun a8=>((w13_As.f aQ.1 aQ.2.1 aQ.2.2.1).bind fun a9=>((r13_Same.f k a8.1 a8.2.1 a8.2.2 a9.1 a9.2.1 a9.2.2).bind fun bo=>(if bo=true then (if aQ.2.2.2=0 then ((w13_knows.f k).bind fun bc=>(some bc)) else (none)) else (none))))) else (none))) else (if (aN.1.length : Int)=0 then ((w13_knows.f k).bind fun bd=>(some bd)) else (none)))))
theorem w13_PackBack.mono : ∀ a0 a1 a2 a3 a4 a5 k,LeO (w13_PackBack.f k a0 a1 a2 a3 a4 a5) (w13_PackBack.f (k+1) a0 a1 a2 a3 a4 a5):=by
 intro a0 a1 a2 a3 a4 a5 k
 unfold w13_PackBack.f
 repeat' with_reducible first|apply cpack_Read.mono|apply cpack_Write.mono|apply w13_great.mono|apply w13_knows.mono|apply r13_Same.mono|apply yLr|apply yLn|apply yLi|apply yLb|intro _
def w13_PackBack.T7 : Bool × List (List Nat × List Nat):=(true, [([], []),([0], [0]),([], []),([1,2], [1,2]),([3], [3]),([4], [4]),([5,4,4], [4,5]),([4], [4]),([7,6,4], [4,7]),([6,8,8,4], [4,6,8]),([4,9], [4,9]),([10,9], [10]),([11], [11]),([12,11], [11,12]),([11,13], [11,13]),([14,11], [14]),([15,15], [15]),([15,16], [15,16]),([17,16,0,1,2,3,4,5,6,7,8,9,10,11,12,13,14,15,16,17], [17])])
def w13_PackBack.B7 : List Nat := [0,1,0,7,15,31,63,31,255,511,1023,2047,4095,8191,16383,32767,65535,131071,262143]
theorem w13_PackBack.tab7 : rtab .any (opsOf Try.f7 7)=w13_PackBack.T7:=by kernel_rfl
theorem w13_PackBack.bits7 : waitsOk w13_PackBack.T7.2 w13_PackBack.B7=true:=by kernel_rfl
set_option maxHeartbeats 8000000 in
set_option maxRecDepth 100000 in
theorem w13_PackBack.calls (k : Nat) (a0 : Int) (a1 : Int) (am : Bool) (aA : Option Addr) (aC : Nat) (ai : List (List Int)) (aD : Option Addr) (aE : Nat) (aj : List (List (List Int))) (A3 : Option Addr) (c3 : Nat) (l3 : List (List Int)) (r : Bool) (w : World) (hr2_1 : Kd.C (Kd.slice 3 (Kd.int .i64)) w aA ai.length ai) (hc2_1 : ai.length≤aC) (hr2_2 : Kd.C (Kd.slice 49 (Kd.slice 3 (Kd.int .i64))) w aD aj.length aj) (hc2_2 : aj.length≤aE) (hr3 : Kd.C (Kd.slice 3 (Kd.int .i64)) w A3 l3.length l3) (hc3 : l3.length≤c3) (h : w13_PackBack.f k a0 a1 am ai aj l3=some r) :
  Calls Try.prog 7 #[.int .i64 a0, .int .i64 a1, .agg #[.bool am, .slice aA ai.length aC, .slice aD aj.length aE], .slice A3 l3.length c3] w fun e w' => e=.returned (.bool r)∧Below w.heap.size w w' := by
 have hu25:=Try.underlying25;have aH:=zm hr2_1;have aI:=zm hc2_1;clear hr2_1 hc2_1;have aJ:=zm hr2_2;have aK:=zm hc2_2;clear hr2_2 hc2_2;have HR3:=zm hr3;have HC3:=zm hc3;clear hr3 hc3;have HB:=zm (Below.refl w.heap.size w);have H:=h
 unfold w13_PackBack.f at H
 clear h
 obtain ⟨ba,A5,H⟩:=ybi H
 by_cases c6 : ba=true
 ·
  subst c6
  rw [if_pos rfl] at H
  obtain ⟨bb,A7,H⟩:=ybi H
  obtain rfl:=Option.some.inj H
  go_enter Try.func7,Try.ntmps7
  go_wp2_with (first|((with_reducible refine gate_dst (N:=6) rfl ?_);refine ybx 6 #[.bool am, .slice aA ai.length aC, .slice aD aj.length aE] 25 ?_;intro al hg w8 hbox hb;have aa:=zm (hbox);have bf:=ygw hg;have bg:=ygw hg;replace HB:=ybs hb;clear hb hbox hg;obtain ⟨_,_,_,_,_,_⟩:=yc3 aa)|((with_reducible refine gate_callee (f:=10) rfl ?_);refine ygl 15 Try.func10 #[.agg #[.bool am, .slice aA ai.length aC, .slice aD aj.length aE], .slice A3 l3.length c3] ?_;(with_reducible refine (w13_great.calls k am _ _ ai _ _ aj _ _ l3 true _ ?ak aI.out ?ao aK.out ?aw HC3.out A5.out).mono ?_);(case ak=>exact ycb aH);(case ao=>exact ycb aJ);(case aw=>exact ycb HR3);rintro e w10 ⟨rfl,hb⟩;refine ⟨_,rfl, ?_⟩;replace aa:=ybb aa hb;replace HB:=ybs hb;(try clear hb))|((with_reducible refine gate_callee (f:=11) rfl ?_);refine ygl 16 Try.func11 #[] ?_;(with_reducible refine (w13_knows.calls k  bb _ A7.out).mono ?_);rintro e w11 ⟨rfl,hb⟩;refine ⟨_,rfl, ?_⟩;replace aa:=ybb aa hb;replace HB:=ybs hb;(try clear hb)))
  go_ret
  exact ⟨ye,yhb⟩
 replace c6:=Bool.eq_false_iff.mpr c6
 subst c6
 rw [ynf] at H
 obtain ⟨⟨ap,bh⟩,A12,H⟩:=ybi H
 try dsimp only at H
 by_cases c13 : bh=0
 ·
  rw [if_pos c13] at H
  obtain ⟨bq,br⟩:=yE c13
  clear c13
  obtain ⟨⟨aM,av,ax,bp⟩,A14,H⟩:=ybi H
  try dsimp only at H
  by_cases c15 : (ap.length : Int)=a0
  ·
   rw [if_pos c15] at H
   obtain ⟨bs,bu⟩:=yE c15
   clear c15
   obtain ⟨⟨bi,bj,bk⟩,A16,H⟩:=ybi H
   try dsimp only at H
   obtain ⟨⟨bl,bm,bn⟩,A17,H⟩:=ybi H
   try dsimp only at H
   obtain ⟨bo,A18,H⟩:=ybi H
   obtain ⟨c19,H⟩:=yif H
   subst c19
   by_cases c20 : bp=0
   ·
    rw [if_pos c20] at H
    obtain ⟨bv,bw⟩:=yE c20
    clear c20
    obtain ⟨bc,A21,H⟩:=ybi H
    obtain rfl:=Option.some.inj H
    go_enter Try.func7,Try.ntmps7
    try go_wp2_with (first|((with_reducible refine gate_dst (N:=6) rfl ?_);refine ybx 6 #[.bool am, .slice aA ai.length aC, .slice aD aj.length aE] 25 ?_;intro al hg w22 hbox hb;have aa:=zm (hbox);have bf:=ygw hg;have bg:=ygw hg;replace HB:=ybs hb;clear hb hbox hg;obtain ⟨_,_,_,_,_,_⟩:=yc3 aa)|((with_reducible refine gate_callee (f:=10) rfl ?_);refine ygl 15 Try.func10 #[.agg #[.bool am, .slice aA ai.length aC, .slice aD aj.length aE], .slice A3 l3.length c3] ?_;(with_reducible refine (w13_great.calls k am _ _ ai _ _ aj _ _ l3 false _ ?ak aI.out ?ao aK.out ?aw HC3.out A5.out).mono ?_);(case ak=>exact ycb aH);(case ao=>exact ycb aJ);(case aw=>exact ycb HR3);rintro e w24 ⟨rfl,hb⟩;refine ⟨_,rfl, ?_⟩;replace aa:=ybb aa hb;replace HB:=ybs hb;(try clear hb);obtain ⟨_,_,_,_,_,_⟩:=yc3 aa)|((with_reducible refine gate_callee (f:=12) rfl ?_);refine ygl 22 Try.func12 #[.int .i64 a0, .int .i64 a1, .agg #[.bool am, .slice aA ai.length aC, .slice aD aj.length aE], .slice A3 l3.length c3] ?_;(with_reducible refine (cpack_Write.calls k a0 a1 am _ _ ai _ _ aj _ _ l3 ap bh _ ?ak aI.out ?ao aK.out ?aw HC3.out A12.out).mono ?_);(case ak=>exact ycb aH);(case ao=>exact ycb aJ);(case aw=>exact ycb HR3);rintro e w26 ⟨bx,rfl,ho0,hb⟩;refine ⟨_,rfl, ?_⟩;have ac:=zm (Kd.R_lower ho0 (zE yhb));replace aa:=ybb aa hb;replace HB:=ybs hb;(try clear hb);(try clear ho0);obtain ⟨aV,aW,bH⟩:=Kd.R_slice ac.out;subst bH)|((with_reducible refine gate_callee (f:=20) rfl ?_);refine ygl 38 Try.func20 #[.int .i64 a0, .int .i64 a1, .slice aV ap.length aW, .slice A3 l3.length c3] ?_;(with_reducible refine (cpack_Read.calls k a0 a1 _ _ ap _ _ l3 aM av ax bp _ ?ak ?aG ?ao HC3.out A14.out).mono ?_);(case ak=>exact yce (Kd.R_reads' ac.out).2.2);(case aG=>exact (Kd.R_reads' ac.out).2.1);(case ao=>exact ycb HR3);rintro e w28 ⟨bV,bW,rfl,ho0,ho1,hb⟩;refine ⟨_,rfl, ?_⟩;replace ac:=yRb ac hb;have ag:=zm (Kd.S_lower ho0 (zE yhb));have af:=zm (Kd.R_lower ho1 (zE yhb));replace aa:=ybb aa hb;replace HB:=ybs hb;(try clear hb);(try clear ho0);(try clear ho1))|((with_reducible refine gate_dst (N:=11) rfl ?_);refine ybx 11 #[.bool false, .slice none 0 0, .slice none 0 0] 25 ?_;intro ah hg w29 hbox hb;replace ac:=yRb ac hb;replace ag:=ySb ag hb;replace af:=yRb af hb;have ae:=zm (hbox);have bI:=ygw hg;have bJ:=ygw hg;replace HB:=ybs hb;have aX:=ynl aa hg;have aY:=yng aa hg;replace aa:=ybb aa hb;clear hb hbox hg;have:=aY.out;have:=aX.out;obtain ⟨_,_,_,_,_,_⟩:=yc3 ae;obtain ⟨aT,aU,bK⟩:=Kd.S_slice ag.out;subst bK;obtain ⟨aZ,a7,bL⟩:=Kd.R_slice af.out;subst bL))
    obtain ⟨w34,hw_⟩ : ∃ x,x=(((w29.setCell ⟨ah,0,none⟩ (.bool aM)).setCell ⟨ah,1,none⟩ (.slice aT av.length aU)).setCell ⟨ah,2,none⟩ (.slice aZ ax.length a7)):=⟨_,rfl⟩
    rw [← hw_]
    replace ac : Aside0 (Kd.R (Kd.int .u8) 5 w34 w.heap.size (fun _=>True) (.slice aV ap.length aW) ap):=⟨by rw [hw_];exact (yR1 ac ae)⟩
    replace ag : Aside0 (Kd.S (Kd.slice 3 (Kd.int .i64)) 49 w34 w.heap.size (fun _=>True) (.slice aT av.length aU) av):=⟨by rw [hw_];exact (yS1 ag ae)⟩
    replace af : Aside0 (Kd.R (Kd.slice 49 (Kd.slice 3 (Kd.int .i64))) 22 w34 w.heap.size (fun k_=>some k_≠(.slice aT av.length aU : Value).ownBlock) (.slice aZ ax.length a7) ax):=⟨by rw [hw_];exact (yR1 af ae)⟩
    replace aa : Aside0 (w34.heap[al]? = some (.cells #[.bool am, .slice aA ai.length aC, .slice aD aj.length aE] 25 (0,0))):=⟨by rw [hw_];exact (yk aa)⟩
    replace ae : Aside0 (w34.heap[ah]? = some (.cells #[.bool aM, .slice aT av.length aU, .slice aZ ax.length a7] 25 (0,0))):=⟨by rw [hw_];exact (ykp ae)⟩
    replace HB : Aside0 (Below w.heap.size w w34):=⟨by rw [hw_];exact (yhb)⟩
    clear hw_
    replace ac:=zm (zq ac.out)
    replace ag:=zm (Kd.S_drew ag.out)
    replace af:=zm (zq af.out)
    replace aa:=zm (zj aa.out)
    replace ae:=zm (zj ae.out)
    replace HB:=zm (zf HB.out)
    refine yst (fun w' => w'.cell? ⟨al,0,none⟩=some (.bool am)∧w'.cell? ⟨al,1,none⟩=some (.slice aA ai.length aC)∧w'.cell? ⟨al,2,none⟩=some (.slice aD aj.length aE)∧w'.cell? ⟨ah,0,none⟩=some (.bool aM)∧w'.cell? ⟨ah,1,none⟩=some (.slice aT av.length aU)∧w'.cell? ⟨ah,2,none⟩=some (.slice aZ ax.length a7)) [] 19 w13_PackBack.tab7 w13_PackBack.bits7 (fun hHeld HT_ HW_ => ?_)
    generalize w34.drew=w35 at ac ag af aa ae HB hHeld ⊢
    refine yp 0 41 HT_ ?_
    refine yp 1 42 HT_ ?_
    refine yp 2 43 HT_ ?_
    refine yp 3 44 HT_ ?_
    refine yp 4 45 HT_ ?_
    refine yl 5 46 HT_ HW_ hHeld ?_
    refine yl 7 48 HT_ HW_ hHeld ?_
    refine yw 6 47 HT_ (fun K hK => ?_)
    refine ygs Try.func14 #[.agg #[.bool am, .slice aA ai.length aC, .slice aD aj.length aE]] ?_
    with_reducible refine (w13_As.calls am (fun k_=>k_ < w.heap.size) _ _ ai (fun k_=>k_ < w.heap.size) _ _ aj bi bj bk _ ?ak ?aG A16.out).mono ?_
    (case ak=>exact Kd.V_mk aI.out (Kd.F_below (Kd.C_F (Kd.heap_slice 3 (Kd.heap_int .i64)) aH.out) yhb))
    (case aG=>exact Kd.V_mk aK.out (Kd.F_below (Kd.C_F (Kd.heap_slice 49 (Kd.heap_slice 3 (Kd.heap_int .i64))) aJ.out) yhb))
    rintro e w36 ⟨bX,bY,rfl,ho0,ho1,hb⟩
    refine ⟨_,rfl, ?_⟩
    have aq:=yho (fun k_=>some k_≠(.slice aV ap.length aW : Value).ownBlock∧some k_≠(.slice aT av.length aU : Value).ownBlock∧some k_≠(.slice aZ ax.length a7 : Value).ownBlock∧k_≠al∧k_≠ah) ho0 (fun k_ hk_=>⟨yoR ac hk_,yoS ag hk_,yoR af hk_,yoB aa hk_,yoB ae hk_⟩)
    have au:=yho (fun k_=>some k_≠(.slice aV ap.length aW : Value).ownBlock∧some k_≠(.slice aT av.length aU : Value).ownBlock∧some k_≠(.slice aZ ax.length a7 : Value).ownBlock∧k_≠al∧k_≠ah) ho1 (fun k_ hk_=>⟨yoR ac hk_,yoS ag hk_,yoR af hk_,yoB aa hk_,yoB ae hk_⟩)
    replace ac:=yRb ac hb
    replace ag:=ySb ag hb
    replace af:=yRb af hb
    replace aa:=ybb aa hb
    replace ae:=ybb ae hb
    replace HB:=ybs hb
    (try clear hb)
    (try clear ho0)
    (try clear ho1)
    refine hK.out _ _ yH (fun hHeld => ?_)
    clear hK K
    refine ym (some 47) ?_
    refine yw 8 49 HT_ (fun K hK => ?_)
    refine ygs Try.func14 #[.agg #[.bool aM, .slice aT av.length aU, .slice aZ ax.length a7]] ?_
    with_reducible refine (w13_As.calls aM (fun k_=>((((True∧some k_≠(.slice aV ap.length aW : Value).ownBlock)∧some k_≠(.slice aZ ax.length a7 : Value).ownBlock)∧k_≠al)∧k_≠ah)) _ _ av (fun k_=>(((some k_≠(.slice aT av.length aU : Value).ownBlock∧some k_≠(.slice aV ap.length aW : Value).ownBlock)∧k_≠al)∧k_≠ah)) _ _ ax bl bm bn _ ?ak ?aG A17.out).mono ?_
    (case ak=>exact Kd.S_V (Kd.S_types (Kd.S_types (Kd.S_apart' (Kd.S_apart' (ag.out) (Kd.R_typed ac.out) (by decide)) (Kd.R_typed af.out) (by decide)) aa.out (by decide)) ae.out (by decide)))
    (case aG=>exact Kd.R_V (Kd.R_types (Kd.R_types (Kd.R_apart' (af.out) (Kd.R_typed ac.out) (by decide)) aa.out (by decide)) ae.out (by decide)))
    rintro e w37 ⟨bZ,b4,rfl,ho0,ho1,hb⟩
    refine ⟨_,rfl, ?_⟩
    replace ag:=ySb ag hb
    replace af:=yRb af hb
    replace aq:=yVb aq hb
    replace au:=yVb au hb
    have ay:=yho (fun k_=>some k_≠(.slice aV ap.length aW : Value).ownBlock∧k_≠al∧k_≠ah) ho0 (fun k_ hk_=>⟨yoR ac hk_,yoB aa hk_,yoB ae hk_⟩)
    have az:=yho (fun k_=>some k_≠(.slice aV ap.length aW : Value).ownBlock∧k_≠al∧k_≠ah) ho1 (fun k_ hk_=>⟨yoR ac hk_,yoB aa hk_,yoB ae hk_⟩)
    replace ac:=yRb ac hb
    replace aa:=ybb aa hb
    replace ae:=ybb ae hb
    replace HB:=ybs hb
    (try clear hb)
    (try clear ho0)
    (try clear ho1)
    obtain ⟨bM,bN,bz⟩:=Kd.V_slice aq.out
    (first|subst bz|(injection bz with f1_ f2_ f3_;have f4_:=f1_.symm;have f5_:=f3_.symm;clear f1_ f2_ f3_;subst f4_;subst f5_))
    obtain ⟨bO,bP,bA⟩:=Kd.V_slice au.out
    (first|subst bA|(injection bA with f1_ f2_ f3_;have f4_:=f1_.symm;have f5_:=f3_.symm;clear f1_ f2_ f3_;subst f4_;subst f5_))
    obtain ⟨bQ,bR,bB⟩:=Kd.V_slice ay.out
    (first|subst bB|(injection bB with f1_ f2_ f3_;have f4_:=f1_.symm;have f5_:=f3_.symm;clear f1_ f2_ f3_;subst f4_;subst f5_))
    obtain ⟨bS,bT,bC⟩:=Kd.V_slice az.out
    (first|subst bC|(injection bC with f1_ f2_ f3_;have f4_:=f1_.symm;have f5_:=f3_.symm;clear f1_ f2_ f3_;subst f4_;subst f5_))
    refine hK.out _ _ yH (fun hHeld => ?_)
    clear hK K
    refine ym (some 49) ?_
    refine yw 9 50 HT_ (fun K hK => ?_)
    refine ygs Try.func22 #[.agg #[.bool bi, .slice bM bj.length bN, .slice bO bk.length bP], .agg #[.bool bl, .slice bQ bm.length bR, .slice bS bn.length bT]] ?_
    with_reducible refine (r13_Same.calls k bi _ _ bj _ _ bk bl _ _ bm _ _ bn true _ ?ak ?aG ?ao ?bD ?aw ?bE ?bF ?bG A18.out).mono ?_
    (case ak=>exact yce (Kd.V_reads' aq.out).2.2)
    (case aG=>exact (Kd.V_reads' aq.out).2.1)
    (case ao=>exact yce (Kd.V_reads' au.out).2.2)
    (case bD=>exact (Kd.V_reads' au.out).2.1)
    (case aw=>exact yce (Kd.V_reads' ay.out).2.2)
    (case bE=>exact (Kd.V_reads' ay.out).2.1)
    (case bF=>exact yce (Kd.V_reads' az.out).2.2)
    (case bG=>exact (Kd.V_reads' az.out).2.1)
    rintro e w42 ⟨rfl,hb⟩
    refine ⟨_,rfl, ?_⟩
    replace ac:=yRb ac hb
    replace ag:=ySb ag hb
    replace af:=yRb af hb
    replace aq:=yVb aq hb
    replace au:=yVb au hb
    replace ay:=yVb ay hb
    replace az:=yVb az hb
    replace aa:=ybb aa hb
    replace ae:=ybb ae hb
    replace HB:=ybs hb
    (try clear hb)
    refine hK.out _ _ yH (fun hHeld => ?_)
    clear hK K
    refine ym (some 50) ?_
    refine yp 10 51 HT_ ?_
    refine yp 11 52 HT_ ?_
    refine yp 12 53 HT_ ?_
    refine yp 13 54 HT_ ?_
    refine yp 14 55 HT_ ?_
    refine yp 15 56 HT_ ?_
    refine yw 16 57 HT_ (fun K hK => ?_)
    refine ygs Try.func11 #[] ?_
    with_reducible refine (w13_knows.calls k  bc _ A21.out).mono ?_
    rintro e w43 ⟨rfl,hb⟩
    refine ⟨_,rfl, ?_⟩
    replace ac:=yRb ac hb
    replace ag:=ySb ag hb
    replace af:=yRb af hb
    replace aq:=yVb aq hb
    replace au:=yVb au hb
    replace ay:=yVb ay hb
    replace az:=yVb az hb
    replace aa:=ybb aa hb
    replace ae:=ybb ae hb
    replace HB:=ybs hb
    (try clear hb)
    refine hK.out _ _ yH (fun hHeld => ?_)
    clear hK K
    refine ym (some 57) ?_
    refine yp 17 58 HT_ ?_
    refine yp 18 8 HT_ ?_
    refine done_ (done_of HT_.out (by kernel_rfl)) ?_
    try go_wp2
    go_ret
    exact ⟨ye,yhb⟩
   rw [if_neg c20] at H
   obtain ⟨bv,bw⟩:=yF c20
   exact absurd H (by simp)
  rw [if_neg c15] at H
  obtain ⟨bs,bu⟩:=yF c15
  exact absurd H (by simp)
 rw [if_neg c13] at H
 obtain ⟨bq,br⟩:=yF c13
 obtain ⟨c44,H⟩:=yif H
 obtain ⟨b5,b6⟩:=yE c44
 clear c44
 obtain ⟨bd,A45,H⟩:=ybi H
 obtain rfl:=Option.some.inj H
 go_enter Try.func7,Try.ntmps7
 go_wp2_with (first|((with_reducible refine gate_dst (N:=6) rfl ?_);refine ybx 6 #[.bool am, .slice aA ai.length aC, .slice aD aj.length aE] 25 ?_;intro al hg w46 hbox hb;have aa:=zm (hbox);have bf:=ygw hg;have bg:=ygw hg;replace HB:=ybs hb;clear hb hbox hg;obtain ⟨_,_,_,_,_,_⟩:=yc3 aa)|((with_reducible refine gate_callee (f:=10) rfl ?_);refine ygl 15 Try.func10 #[.agg #[.bool am, .slice aA ai.length aC, .slice aD aj.length aE], .slice A3 l3.length c3] ?_;(with_reducible refine (w13_great.calls k am _ _ ai _ _ aj _ _ l3 false _ ?ak aI.out ?ao aK.out ?aw HC3.out A5.out).mono ?_);(case ak=>exact ycb aH);(case ao=>exact ycb aJ);(case aw=>exact ycb HR3);rintro e w48 ⟨rfl,hb⟩;refine ⟨_,rfl, ?_⟩;replace aa:=ybb aa hb;replace HB:=ybs hb;(try clear hb);obtain ⟨_,_,_,_,_,_⟩:=yc3 aa)|((with_reducible refine gate_callee (f:=12) rfl ?_);refine ygl 22 Try.func12 #[.int .i64 a0, .int .i64 a1, .agg #[.bool am, .slice aA ai.length aC, .slice aD aj.length aE], .slice A3 l3.length c3] ?_;(with_reducible refine (cpack_Write.calls k a0 a1 am _ _ ai _ _ aj _ _ l3 ap bh _ ?ak aI.out ?ao aK.out ?aw HC3.out A12.out).mono ?_);(case ak=>exact ycb aH);(case ao=>exact ycb aJ);(case aw=>exact ycb HR3);rintro e w50 ⟨bx,rfl,ho0,hb⟩;refine ⟨_,rfl, ?_⟩;have ac:=zm (Kd.R_lower ho0 (zE yhb));replace aa:=ybb aa hb;replace HB:=ybs hb;(try clear hb);(try clear ho0);obtain ⟨b7,b8,bU⟩:=Kd.R_slice ac.out;subst bU)|(go_at_call 11;(with_reducible refine (w13_knows.calls k  bd _ A45.out).mono ?_);rintro e w52 ⟨rfl,hb⟩;replace ac:=yRb ac hb;replace aa:=ybb aa hb;replace HB:=ybs hb;(try clear hb)))
 go_ret
 exact ⟨ye,yhb⟩
def r12_Right.f (a0 : Int) (a1 : Int) : Option (Bool):=if a0≤60 then (if a1=1 then (if a0 ≥ 11 then (some true) else (if a1=2 then (some (decide (a0 ≥ 17))) else (some false))) else (if a1=2 then (some (decide (a0 ≥ 17))) else (some false))) else (some false)
set_option maxHeartbeats 8000000 in
set_option maxRecDepth 100000 in
theorem r12_Right.calls (a0 : Int) (a1 : Int) (r : Bool) (w : World) (h : r12_Right.f a0 a1=some r) :
  Calls Try.prog 23 #[.int .i64 a0, .int .i64 a1] w fun e w' => e=.returned (.bool r)∧Drawn0 w w' := by
 have H:=h
 unfold r12_Right.f at H
 clear h
 by_cases c3 : a0≤60
 ·
  rw [if_pos c3] at H
  have aa:=yD c3
  clear c3
  by_cases c4 : a1=1
  ·
   rw [if_pos c4] at H
   obtain ⟨ac,ae⟩:=yE c4
   clear c4
   by_cases c5 : a0 ≥ 11
   ·
    rw [if_pos c5] at H
    have af:=yDl c5
    clear c5
    obtain rfl:=Option.some.inj H
    go_enter Try.func23,Try.ntmps23
    go_wp2
    go_ret
    exact ⟨yq,yd⟩
   rw [if_neg c5] at H
   have af:=yGl c5
   clear c5
   by_cases c6 : a1=2
   ·
    rw [if_pos c6] at H
    obtain ⟨ag,ah⟩:=yE c6
    clear c6
    obtain rfl:=Option.some.inj H
    go_enter Try.func23,Try.ntmps23
    go_wp2
    go_ret
    exact ⟨yq,yd⟩
   rw [if_neg c6] at H
   obtain ⟨ag,ah⟩:=yF c6
   obtain rfl:=Option.some.inj H
   go_enter Try.func23,Try.ntmps23
   go_wp2
   go_ret
   exact ⟨yq,yd⟩
  rw [if_neg c4] at H
  obtain ⟨ac,ae⟩:=yF c4
  by_cases c7 : a1=2
  ·
   rw [if_pos c7] at H
   obtain ⟨ai,aj⟩:=yE c7
   clear c7
   obtain rfl:=Option.some.inj H
   go_enter Try.func23,Try.ntmps23
   go_wp2
   go_ret
   exact ⟨yq,yd⟩
  rw [if_neg c7] at H
  obtain ⟨ai,aj⟩:=yF c7
  obtain rfl:=Option.some.inj H
  go_enter Try.func23,Try.ntmps23
  go_wp2
  go_ret
  exact ⟨yq,yd⟩
 rw [if_neg c3] at H
 have aa:=yG c3
 clear c3
 obtain rfl:=Option.some.inj H
 go_enter Try.func23,Try.ntmps23
 go_wp2
 go_ret
 exact ⟨yq,yd⟩
def r12_Room.f (a0 : Int) (a1 : Int) : Option (Int):=(r12_Right.f a0 a1).bind fun aa=>(if aa=true then (if a1=1 then (some (wrap64 ((wrap64 (8 * a0)) - 86))) else (some (wrap64 (Int.tdiv (wrap64 ((wrap64 (8 * a0)) - 131)) 2)))) else (some 0))
set_option maxHeartbeats 8000000 in
set_option maxRecDepth 100000 in
theorem r12_Room.calls (a0 : Int) (a1 : Int) (r : Int) (w : World) (h : r12_Room.f a0 a1=some r) :
  Calls Try.prog 84 #[.int .i64 a0, .int .i64 a1] w fun e w' => e=.returned (.int .i64 r)∧Drawn0 w w' := by
 have H:=h
 unfold r12_Room.f at H
 clear h
 obtain ⟨aa,A3,H⟩:=ybi H
 by_cases c4 : aa=true
 ·
  subst c4
  rw [if_pos rfl] at H
  by_cases c5 : a1=1
  ·
   rw [if_pos c5] at H
   obtain ⟨ac,ae⟩:=yE c5
   clear c5
   obtain rfl:=Option.some.inj H
   go_enter Try.func84,Try.ntmps84
   go_wp2_with (first|((with_reducible refine gate_callee (f:=23) rfl ?_);refine ygl 7 Try.func23 #[.int .i64 a0, .int .i64 a1] ?_;(with_reducible refine (r12_Right.calls a0 a1 true _ A3.out).mono ?_);rintro e w' ⟨rfl,⟨nd,rfl⟩⟩;refine ⟨_,rfl, ?_⟩))
   go_ret
   exact ⟨yq,yd⟩
  rw [if_neg c5] at H
  obtain ⟨ac,ae⟩:=yF c5
  obtain rfl:=Option.some.inj H
  go_enter Try.func84,Try.ntmps84
  go_wp2_with (first|((with_reducible refine gate_callee (f:=23) rfl ?_);refine ygl 7 Try.func23 #[.int .i64 a0, .int .i64 a1] ?_;(with_reducible refine (r12_Right.calls a0 a1 true _ A3.out).mono ?_);rintro e w' ⟨rfl,⟨nd,rfl⟩⟩;refine ⟨_,rfl, ?_⟩))
  go_ret
  exact ⟨yq,yd⟩
 replace c4:=Bool.eq_false_iff.mpr c4
 subst c4
 rw [ynf] at H
 obtain rfl:=Option.some.inj H
 go_enter Try.func84,Try.ntmps84
 go_wp2_with (first|((with_reducible refine gate_callee (f:=23) rfl ?_);refine ygl 7 Try.func23 #[.int .i64 a0, .int .i64 a1] ?_;(with_reducible refine (r12_Right.calls a0 a1 false _ A3.out).mono ?_);rintro e w' ⟨rfl,⟨nd,rfl⟩⟩;refine ⟨_,rfl, ?_⟩))
 go_ret
 exact ⟨yq,yd⟩
mutual
def r06_Row.l0 : Nat→Int→List Int→Int→Option (List Int)
 | 0,_,_,_=>none
 | k+1,x0,x3,x4=>if x4≤12 then (if x4=0 then (if x3.length < 17592186044416 then (r06_Row.l0 k x0 (x3 ++ [1]) (wrap64 (x4+1))) else (none)) else (if x3.length < 17592186044416 then (r06_Row.l0 k x0 (x3 ++ [0]) (wrap64 (x4+1))) else (none))) else (r06_Row.l1 k x0 x3 0)
def r06_Row.l1 : Nat→Int→List Int→Int→Option (List Int)
 | 0,_,_,_=>none
 | k+1,x0,x3,x5=>if x5 < x0 then (r06_Row.l2 k x0 x3 x5 ([] : List Int) 0) else (some x3)
def r06_Row.l2 : Nat→Int→List Int→Int→List Int→Int→Option (List Int)
 | 0,_,_,_,_,_=>none
 | k+1,x0,x3,x5,x6,x7=>if x7≤12 then (if 0≤x7 then (if x7 < (x3.length : Int) then (r06_Row.l3 k x0 x3 x5 x6 x7 (rd x3 x7) 1) else (none)) else (none)) else (r06_Row.l1 k x0 x6 (wrap64 (x5+1)))
def r06_Row.l3 : Nat→Int→List Int→Int→List Int→Int→Int→Int→Option (List Int)
 | 0,_,_,_,_,_,_,_=>none
 | k+1,x0,x3,x5,x6,x7,x8,x9=>if x9≤x7 then (if 0≤(wrap64 (x7 - x9)) then (if (wrap64 (x7 - x9)) < (x3.length : Int) then (r06_Row.l3 k x0 x3 x5 x6 x7 (IntKind.u64.wrap (x8+(IntKind.u64.wrap (2 * (rd x3 (wrap64 (x7 - x9))))))) (wrap64 (x9+1))) else (none)) else (none)) else (if x6.length < 17592186044416 then (r06_Row.l2 k x0 x3 x5 (x6 ++ [x8]) (wrap64 (x7+1))) else (none))
end
def r06_Row.f (k : Nat) (a0 : Int) : Option (List Int):=r06_Row.l0 k a0 ([] : List Int) 0
theorem r06_Row.mono_l : ∀ k,(∀ y0 y1 y2,LeO (r06_Row.l0 k y0 y1 y2) (r06_Row.l0 (k+1) y0 y1 y2))∧(∀ y0 y1 y2,LeO (r06_Row.l1 k y0 y1 y2) (r06_Row.l1 (k+1) y0 y1 y2))∧(∀ y0 y1 y2 y3 y4,LeO (r06_Row.l2 k y0 y1 y2 y3 y4) (r06_Row.l2 (k+1) y0 y1 y2 y3 y4))∧(∀ y0 y1 y2 y3 y4 y5 y6,LeO (r06_Row.l3 k y0 y1 y2 y3 y4 y5 y6) (r06_Row.l3 (k+1) y0 y1 y2 y3 y4 y5 y6))
 | 0=>⟨fun _ _ _ r h=>by simp [r06_Row.l0] at h,fun _ _ _ r h=>by simp [r06_Row.l1] at h,fun _ _ _ _ _ r h=>by simp [r06_Row.l2] at h,fun _ _ _ _ _ _ _ r h=>by simp [r06_Row.l3] at h⟩
 | k+1=>by
  obtain ⟨ih0,ih1,ih2,ih3⟩:=r06_Row.mono_l k
  refine ⟨?_, ?_, ?_, ?_⟩
  ·
   intro y0 y1 y2
   unfold r06_Row.l0
   repeat' with_reducible first|apply ih0|apply ih1|apply ih2|apply ih3|apply yLr|apply yLn|apply yLi|apply yLb|intro _
  ·
   intro y0 y1 y2
   unfold r06_Row.l1
   repeat' with_reducible first|apply ih0|apply ih1|apply ih2|apply ih3|apply yLr|apply yLn|apply yLi|apply yLb|intro _
  ·
   intro y0 y1 y2 y3 y4
   unfold r06_Row.l2
   repeat' with_reducible first|apply ih0|apply ih1|apply ih2|apply ih3|apply yLr|apply yLn|apply yLi|apply yLb|intro _
  intro y0 y1 y2 y3 y4 y5 y6
  unfold r06_Row.l3
  repeat' with_reducible first|apply ih0|apply ih1|apply ih2|apply ih3|apply yLr|apply yLn|apply yLi|apply yLb|intro _
theorem r06_Row.mono : ∀ a0 k,LeO (r06_Row.f k a0) (r06_Row.f (k+1) a0):=by
 intro a0 k
 obtain ⟨ih0,ih1,ih2,ih3⟩:=r06_Row.mono_l k
 unfold r06_Row.f
 repeat' with_reducible first|apply ih0|apply ih1|apply ih2|apply ih3|apply yLr|apply yLn|apply yLi|apply yLb|intro _
set_option maxHeartbeats 8000000 in
set_option maxRecDepth 100000 in
theorem r06_Row.calls (k : Nat) (a0 : Int) (r : List Int) (w : World) (h : r06_Row.f k a0=some r) :
  Calls Try.prog 81 #[.int .i64 a0] w fun e w' => ∃ v0_ : Value,e=.returned (v0_)∧Kd.R (Kd.int .u64) 51 w' w.heap.size (fun _=>True) v0_ r∧Below w.heap.size w w' := by
 have HB:=zm (Below.refl w.heap.size w);have H:=h
 unfold r06_Row.f at H
 clear h
 have H' := zm H
 clear H
 go_enter Try.func81,Try.ntmps81
 go_wp2
 go_loopg [3,4] k (fun kq v3 v4 w' => ∃ (ag : List Int) (af : Int),v4=.int .i64 af∧Aside0 (r06_Row.l0 kq a0 ag af=some r)∧Aside0 (kq≤k)∧Aside0 (Kd.R (Kd.int .u64) 51 w' w.heap.size (fun _=>True) v3 ag)∧Aside0 (Below w.heap.size w w'))
 case atStart=>exact ⟨(([] : List Int)),(0),yq,H',⟨Nat.le_refl _⟩,⟨yn⟩,⟨yhb⟩⟩
 case round =>
  clear H'
  obtain ⟨ag,af,rfl,HA,HK1,aa,HB⟩:=hrel
  obtain ⟨k1,rfl⟩:=ysu gk (fun h=>by subst h;exact absurd HA.out (by simp [r06_Row.l0]))
  have H:=HA.out;clear HA
  simp only [r06_Row.l0] at H
  by_cases c2 : af≤12
  ·
   rw [if_pos c2] at H
   have aD:=yD c2
   clear c2
   by_cases c3 : af=0
   ·
    rw [if_pos c3] at H
    obtain ⟨a7,a8⟩:=yE c3
    clear c3
    obtain ⟨c4,H⟩:=yif H
    have LMc4:=zm c4;clear c4
    obtain ⟨aE,aq⟩ : ∃ y_ : List Int,y_=(ag ++ [1]):=⟨_,rfl⟩
    replace H : (r06_Row.l0 k1 a0 aE (wrap64 (af+1)))=some r:=yrw aq H
    have aG:=zm aq;clear aq
    have H' := zm H
    clear H
    go_wp2_with (first|((with_reducible refine gate_builtin (b:=.append) (xs := #[.tmp 16, .tmp 17]) rfl ?_);at_builtin;refine Kd.R_append (Kd.int .u64) (w0:=w) w.heap.size rfl (.tmp 16) (.tmp 17) 126 51 (.int .u64 0) 8 rfl Try.underlying126 info51 rfl (by decide) (by omega) u3 ag 1 [.int .u64 1] (fun _=>True) (fun _=>False) rfl rfl ?aP (fun _ hk=>hk.elim) ?aF ?aO ?aB ?aS ?aL ?_;(case aP=>exact rfl);(case aB=>exact yhb);(case aF=>exact (fun _ _=>trivial));(case aO=>exact (yr aa));(case aS=>exact (zE yhb));(case aL=>have:=LMc4.out;omega);intro bf w5 ho hb hg hat;rw [← aG.out] at ho;replace HB:=zm (hb);have aH:=zm (ho);clear aa;clear ho hb hg hat))
    go_roundg k1
    case measure=>exact yom1 HK1
    case rel=>exact ⟨(aE),(wrap64 (af+1)),yq,H',⟨yom1 HK1⟩,⟨yr aH⟩,⟨yhb⟩⟩
   rw [if_neg c3] at H
   obtain ⟨a7,a8⟩:=yF c3
   obtain ⟨c6,H⟩:=yif H
   have LMc6:=zm c6;clear c6
   obtain ⟨aI,au⟩ : ∃ y_ : List Int,y_=(ag ++ [0]):=⟨_,rfl⟩
   replace H : (r06_Row.l0 k1 a0 aI (wrap64 (af+1)))=some r:=yrw au H
   have aJ:=zm au;clear au
   have H' := zm H
   clear H
   go_wp2_with (first|((with_reducible refine gate_builtin (b:=.append) (xs := #[.tmp 19, .tmp 20]) rfl ?_);at_builtin;refine Kd.R_append (Kd.int .u64) (w0:=w) w.heap.size rfl (.tmp 19) (.tmp 20) 126 51 (.int .u64 0) 8 rfl Try.underlying126 info51 rfl (by decide) (by omega) u3 ag 0 [.int .u64 0] (fun _=>True) (fun _=>False) rfl rfl ?aP (fun _ hk=>hk.elim) ?aF ?aO ?aB ?aS ?aL ?_;(case aP=>exact rfl);(case aB=>exact yhb);(case aF=>exact (fun _ _=>trivial));(case aO=>exact (yr aa));(case aS=>exact (zE yhb));(case aL=>have:=LMc6.out;omega);intro bg w7 ho hb hg hat;rw [← aJ.out] at ho;replace HB:=zm (hb);have aK:=zm (ho);clear aa;clear ho hb hg hat))
   go_roundg k1
   case measure=>exact yom1 HK1
   case rel=>exact ⟨(aI),(wrap64 (af+1)),yq,H',⟨yom1 HK1⟩,⟨yr aK⟩,⟨yhb⟩⟩
  rw [if_neg c2] at H
  have aD:=yG c2
  clear c2
  have H' := zm H
  clear H
  go_wp2
  go_loopg [3,5] k1 (fun kq v3 v5 w' => ∃ (ac : List Int) (ah : Int),v5=.int .i64 ah∧Aside0 (r06_Row.l1 kq a0 ac ah=some r)∧Aside0 (kq≤k1)∧Aside0 (Kd.R (Kd.int .u64) 51 w' w.heap.size (fun _=>True) v3 ac)∧Aside0 (Below w.heap.size w w'))
  case atStart=>exact ⟨(ag),(0),yq,H',⟨Nat.le_refl _⟩,⟨yr aa⟩,⟨yhb⟩⟩
  case round =>
   clear H'
   try clear aD
   try clear c3
   obtain ⟨ac,ah,rfl,HA,HK2,aa,HB⟩:=hrel
   obtain ⟨k2,rfl⟩:=ysu gk (fun h=>by subst h;exact absurd HA.out (by simp [r06_Row.l1]))
   have H:=HA.out;clear HA
   simp only [r06_Row.l1] at H
   by_cases c8 : ah < a0
   ·
    rw [if_pos c8] at H
    have aM:=yD c8
    clear c8
    have H' := zm H
    clear H
    go_wp2
    go_loopg [6,7] k2 (fun kq v6 v7 w' => ∃ (ai : List Int) (ae : Int),v7=.int .i64 ae∧Aside0 (r06_Row.l2 kq a0 ac ah ai ae=some r)∧Aside0 (kq≤k2)∧Aside0 (Kd.R (Kd.int .u64) 51 w' w.heap.size (fun k_=>some k_≠(v6 : Value).ownBlock) u3 ac)∧Aside0 (Kd.R (Kd.int .u64) 51 w' w.heap.size (fun k_=>some k_≠(u3 : Value).ownBlock) v6 ai)∧Aside0 (Below w.heap.size w w'))
    case atStart=>exact ⟨(([] : List Int)),(0),yq,H',⟨Nat.le_refl _⟩,⟨yR0 aa⟩,⟨yn⟩,⟨yhb⟩⟩
    case round =>
     clear H'
     try clear aM
     obtain ⟨ai,ae,rfl,HA,HK3,aa,ap,HB⟩:=hrel
     obtain ⟨k3,rfl⟩:=ysu gk (fun h=>by subst h;exact absurd HA.out (by simp [r06_Row.l2]))
     have H:=HA.out;clear HA
     simp only [r06_Row.l2] at H
     by_cases c9 : ae≤12
     ·
      rw [if_pos c9] at H
      have aN:=yD c9
      clear c9
      obtain ⟨c10,H⟩:=yif H
      have aQ : decide (0≤ae)=true:=decide_eq_true c10
      clear c10
      obtain ⟨c11,H⟩:=yif H
      have aT : decide (ae < (ac.length : Int))=true:=decide_eq_true c11
      clear c11
      have H' := zm H
      clear H
      obtain ⟨bh,az,a9⟩:=Kd.R_slice aa.out
      subst a9
      have aw : 0≤(ae : Int):=yt
      have ax : ae < (ac.length : Int):=yt
      obtain ⟨am,ba,ay⟩:=Kd.at_int (Kd.R_reads' aa.out).2.2 ae aw ax
      cases ba
      replace aw:=eq_true aw
      replace ax:=eq_true ax
      go_wp2
      go_loopg [8,9] k3 (fun kq v8 v9 w' => ∃ (aj : Int) (ak : Int),v8=.int .u64 aj∧v9=.int .i64 ak∧Aside0 (r06_Row.l3 kq a0 ac ah ai ae aj ak=some r)∧Aside0 (kq≤k3)∧Aside0 (Kd.R (Kd.int .u64) 51 w' w.heap.size (fun k_=>some k_≠(u6 : Value).ownBlock) (.slice (some am) ac.length az) ac)∧Aside0 (Kd.R (Kd.int .u64) 51 w' w.heap.size (fun k_=>some k_≠((.slice (some am) ac.length az) : Value).ownBlock) u6 ai)∧Aside0 (Below w.heap.size w w'))
      case atStart=>exact ⟨(rd ac ae),(1),yq,yq,H',⟨Nat.le_refl _⟩,⟨yr aa⟩,⟨yr ap⟩,⟨yhb⟩⟩
      case round =>
       clear H'
       try clear aN
       try clear aQ
       try clear aT
       try clear ay
       try clear aw
       try clear ax
       obtain ⟨aj,ak,rfl,rfl,HA,HK4,aa,ap,HB⟩:=hrel
       obtain ⟨k4,rfl⟩:=ysu gk (fun h=>by subst h;exact absurd HA.out (by simp [r06_Row.l3]))
       have H:=HA.out;clear HA
       simp only [r06_Row.l3] at H
       by_cases c13 : ak≤ae
       ·
        rw [if_pos c13] at H
        have aU:=yD c13
        clear c13
        obtain ⟨al,ao⟩ : ∃ j_ : Int,(wrap64 (ae - ak))=j_:=⟨_,rfl⟩
        (first|rw [ao] at H|simp only [ao] at H)
        have hji14w : (IntKind.i64.wrap (ae - ak))=al:=(i64_w _).trans ao
        obtain ⟨c15,H⟩:=yif H
        have bc : decide (0≤(al))=true:=decide_eq_true c15
        clear c15
        obtain ⟨c16,H⟩:=yif H
        have bd : decide ((al) < (ac.length : Int))=true:=decide_eq_true c16
        clear c16
        have H' := zm H
        clear H
        have aA : 0≤((al) : Int):=yt
        have aC : (al) < (ac.length : Int):=yt
        obtain ⟨aV,bb,aZ⟩:=Kd.at_int (Kd.R_reads' aa.out).2.2 (al) aA aC
        obtain rfl : am=aV:=(by injection bb)
        replace aA:=eq_true aA
        replace aC:=eq_true aC
        go_wp2
        go_roundg k4
        case measure=>exact yom4 HK1 HK2 HK3 HK4
        case rel=>exact ⟨(IntKind.u64.wrap (aj+(IntKind.u64.wrap (2 * (rd ac (al)))))),(wrap64 (ak+1)),(by first|rfl|(simp;done)|(simp only [← ao] <;> (first|rfl|simp))|(simp [*];done)),yq,H',⟨yom4 HK1 HK2 HK3 HK4⟩,⟨yr aa⟩,⟨yr ap⟩,⟨yhb⟩⟩
       rw [if_neg c13] at H
       have aU:=yG c13
       clear c13
       obtain ⟨c17,H⟩:=yif H
       have LMc17:=zm c17;clear c17
       obtain ⟨aW,av⟩ : ∃ y_ : List Int,y_=(ai ++ [aj]):=⟨_,rfl⟩
       replace H : (r06_Row.l2 k4 a0 ac ah aW (wrap64 (ae+1)))=some r:=yrw av H
       have aX:=zm av;clear av
       have H' := zm H
       clear H
       go_wp2_with (first|((with_reducible refine gate_builtin (b:=.append) (xs := #[.tmp 49, .tmp 51]) rfl ?_);at_builtin;refine Kd.R_append (Kd.int .u64) (w0:=w) w.heap.size rfl (.tmp 49) (.tmp 51) 126 51 (.int .u64 0) 8 rfl Try.underlying126 info51 rfl (by decide) (by omega) u6 ai aj [.int .u64 aj] (fun k_=>some k_≠(.slice (some am) ac.length az : Value).ownBlock) (fun _=>False) rfl rfl ?aP (fun _ hk=>hk.elim) ?aF ?aO ?aB ?aS ?aL ?_;(case aP=>exact rfl);(case aB=>exact yhb);(case aF=>exact (fun k_ hk=>Kd.fresh' (Kd.R_lt (yr aa)) k_ hk));(case aO=>exact (yr ap));(case aS=>exact (zE yhb));(case aL=>have:=LMc17.out;omega);intro bi w18 ho hb hg hat;rw [← aX.out] at ho;replace aa:=zm (Kd.R_after (ok:=(fun _=>True)) (yR0 aa) hg hat);replace HB:=zm (hb);have aY:=zm (ho);clear ap;clear ho hb hg hat))
       go_roundg k4
       case measure=>exact yom4 HK1 HK2 HK3 HK4
       case rel=>exact ⟨(aW),(wrap64 (ae+1)),yq,H',⟨yom4 HK1 HK2 HK3 HK4⟩,⟨yR0 aa⟩,⟨yr aY⟩,⟨yhb⟩⟩
     rw [if_neg c9] at H
     have aN:=yG c9
     clear c9
     have H' := zm H
     clear H
     go_wp2
     go_roundg k3
     case measure=>exact yom3 HK1 HK2 HK3
     case rel=>exact ⟨(ai),(wrap64 (ah+1)),yq,H',⟨yom3 HK1 HK2 HK3⟩,⟨yR0 ap⟩,⟨yhb⟩⟩
   rw [if_neg c8] at H
   have aM:=yG c8
   clear c8
   obtain rfl:=Option.some.inj H
   go_wp2
   go_ret
   exact ⟨_,ye,yr aa,yhb⟩
def r06_Size.l0 : Nat→Int→Int→Option (Int)
 | 0,_,_=>none
 | k+1,x0,x3=>if x3≤12 then (if x0=x3 then (some x3) else (if x0=(wrap64 (-x3)) then (some x3) else (r06_Size.l0 k x0 (wrap64 (x3+1))))) else (some 13)
def r06_Size.f (k : Nat) (a0 : Int) : Option (Int):=r06_Size.l0 k a0 0
theorem r06_Size.mono_l : ∀ k,(∀ y0 y1,LeO (r06_Size.l0 k y0 y1) (r06_Size.l0 (k+1) y0 y1))
 | 0=>fun _ _ r h=>by simp [r06_Size.l0] at h
 | k+1=>by
  have ih0:=r06_Size.mono_l k
  ·
   intro y0 y1
   unfold r06_Size.l0
   repeat' with_reducible first|apply ih0|apply yLr|apply yLn|apply yLi|apply yLb|intro _
theorem r06_Size.mono : ∀ a0 k,LeO (r06_Size.f k a0) (r06_Size.f (k+1) a0):=by
 intro a0 k
 have ih0:=r06_Size.mono_l k
 unfold r06_Size.f
 repeat' with_reducible first|apply ih0|apply yLr|apply yLn|apply yLi|apply yLb|intro _
set_option maxHeartbeats 8000000 in
set_option maxRecDepth 100000 in
theorem r06_Size.calls (k : Nat) (a0 : Int) (r : Int) (w : World) (h : r06_Size.f k a0=some r) :
  Calls Try.prog 80 #[.int .i64 a0] w fun e w' => e=.returned (.int .i64 r)∧Drawn0 w w' := by
 have H:=h
 unfold r06_Size.f at H
 clear h
 have H' := zm H
 clear H
 go_enter Try.func80,Try.ntmps80
 go_wp2
 go_loopg [3] k (fun kq v3 w' => ∃ (aa : Int),v3=.int .i64 aa∧Aside0 (r06_Size.l0 kq a0 aa=some r)∧Aside0 (kq≤k)∧Drawn0 w w')
 case atStart=>exact ⟨(0),yq,H',⟨Nat.le_refl _⟩,yd⟩
 case round =>
  clear H'
  obtain ⟨aa,rfl,HA,HK1,⟨m1,rfl⟩⟩:=hrel
  obtain ⟨k1,rfl⟩:=ysu gk (fun h=>by subst h;exact absurd HA.out (by simp [r06_Size.l0]))
  have H:=HA.out;clear HA
  simp only [r06_Size.l0] at H
  by_cases c2 : aa≤12
  ·
   rw [if_pos c2] at H
   have ac:=yD c2
   clear c2
   by_cases c3 : a0=aa
   ·
    rw [if_pos c3] at H
    obtain ⟨ae,af⟩:=yE c3
    clear c3
    obtain rfl:=Option.some.inj H
    go_wp2
    go_ret
    exact ⟨yq,yd⟩
   rw [if_neg c3] at H
   obtain ⟨ae,af⟩:=yF c3
   by_cases c4 : a0=(wrap64 (-aa))
   ·
    rw [if_pos c4] at H
    obtain ⟨ag,ah⟩:=yE c4
    clear c4
    obtain rfl:=Option.some.inj H
    go_wp2
    go_ret
    exact ⟨yq,yd⟩
   rw [if_neg c4] at H
   obtain ⟨ag,ah⟩:=yF c4
   have H' := zm H
   clear H
   go_wp2
   go_roundg k1
   case measure=>exact yom1 HK1
   case rel=>exact ⟨(wrap64 (aa+1)),yq,H',⟨yom1 HK1⟩,yd⟩
  rw [if_neg c2] at H
  have ac:=yG c2
  clear c2
  obtain rfl:=Option.some.inj H
  go_wp2
  go_ret
  exact ⟨yq,yd⟩
def r06_Pulses.l0 : Nat→List Int→Int→Int→Option (Int)
 | 0,_,_,_=>none
 | k+1,x0,x3,x4=>if x4 < (x0.length : Int) then (if 0≤x4 then ((r06_Size.f k (rd x0 x4)).bind fun ac=>(r06_Pulses.l0 k x0 (wrap64 (x3+ac)) (wrap64 (x4+1)))) else (none)) else (some x3)
def r06_Pulses.f (k : Nat) (l0 : List Int) : Option (Int):=r06_Pulses.l0 k l0 0 0
theorem r06_Pulses.mono_l : ∀ k,(∀ y0 y1 y2,LeO (r06_Pulses.l0 k y0 y1 y2) (r06_Pulses.l0 (k+1) y0 y1 y2))
 | 0=>fun _ _ _ r h=>by simp [r06_Pulses.l0] at h
 | k+1=>by
  have ih0:=r06_Pulses.mono_l k
  ·
   intro y0 y1 y2
   unfold r06_Pulses.l0
   repeat' with_reducible first|apply ih0|apply r06_Size.mono|apply yLr|apply yLn|apply yLi|apply yLb|intro _
theorem r06_Pulses.mono : ∀ a0 k,LeO (r06_Pulses.f k a0) (r06_Pulses.f (k+1) a0):=by
 intro a0 k
 have ih0:=r06_Pulses.mono_l k
 unfold r06_Pulses.f
 repeat' with_reducible first|apply ih0|apply r06_Size.mono|apply yLr|apply yLn|apply yLi|apply yLb|intro _
set_option maxHeartbeats 8000000 in
set_option maxRecDepth 100000 in
theorem r06_Pulses.calls (k : Nat) (A0 : Option Addr) (c0 : Nat) (l0 : List Int) (r : Int) (w : World) (hr0 : Kd.C (Kd.int .i64) w A0 l0.length l0) (hc0 : l0.length≤c0) (h : r06_Pulses.f k l0=some r) :
  Calls Try.prog 40 #[.slice A0 l0.length c0] w fun e w' => e=.returned (.int .i64 r)∧Drawn0 w w' := by
 have HR0:=zm hr0;have HC0:=zm hc0;clear hr0 hc0;have H:=h
 unfold r06_Pulses.f at H
 clear h
 have H' := zm H
 clear H
 go_enter Try.func40,Try.ntmps40
 go_wp2
 go_loopg [3,4] k (fun kq v3 v4 w' => ∃ (ae : Int) (aa : Int),v3=.int .i64 ae∧v4=.int .i64 aa∧Aside0 (r06_Pulses.l0 kq l0 ae aa=some r)∧Aside0 (kq≤k)∧Drawn0 w w')
 case atStart=>exact ⟨(0),(0),yq,yq,H',⟨Nat.le_refl _⟩,yd⟩
 case round =>
  clear H'
  obtain ⟨ae,aa,rfl,rfl,HA,HK1,⟨m1,rfl⟩⟩:=hrel
  obtain ⟨k1,rfl⟩:=ysu gk (fun h=>by subst h;exact absurd HA.out (by simp [r06_Pulses.l0]))
  have H:=HA.out;clear HA
  simp only [r06_Pulses.l0] at H
  by_cases c2 : aa < (l0.length : Int)
  ·
   rw [if_pos c2] at H
   have ag:=yD c2
   clear c2
   obtain ⟨c3,H⟩:=yif H
   have aj : decide (0≤aa)=true:=decide_eq_true c3
   clear c3
   obtain ⟨ac,A4,H⟩:=ybi H
   have H' := zm H
   clear H
   obtain ⟨ai,ah,af,ak,al⟩:=yai HR0 aa
   cases ah
   go_wp2_with (first|((with_reducible refine gate_callee (f:=80) rfl ?_);refine ygl 16 Try.func80 #[.int .i64 (rd l0 aa)] ?_;(with_reducible refine (r06_Size.calls k1 (rd l0 aa) ac _ A4.out).mono ?_);rintro e w' ⟨rfl,⟨nd,rfl⟩⟩;refine ⟨_,rfl, ?_⟩))
   go_roundg k1
   case measure=>exact yom1 HK1
   case rel=>exact ⟨(wrap64 (ae+ac)),(wrap64 (aa+1)),yq,yq,H',⟨yom1 HK1⟩,yd⟩
  rw [if_neg c2] at H
  have ag:=yG c2
  clear c2
  obtain rfl:=Option.some.inj H
  go_wp2
  go_ret
  exact ⟨yq,yd⟩
def r03_Log2.f : Nat→Int→Option (Int)
 | 0,_=>none
 | k+1,a0=>if a0=0 then (some (-1)) else ((r03_Log2.f k (IntKind.u64.wrap (Int.tdiv a0 2))).bind fun aa=>(some (wrap64 (1+aa))))
theorem r03_Log2.mono_l : ∀ k,(∀ y0,LeO (r03_Log2.f k y0) (r03_Log2.f (k+1) y0))
 | 0=>fun _ r h=>by simp [r03_Log2.f] at h
 | k+1=>by
  have ih0:=r03_Log2.mono_l k
  ·
   intro y0
   unfold r03_Log2.f
   repeat' with_reducible first|apply ih0|apply yLr|apply yLn|apply yLi|apply yLb|intro _
theorem r03_Log2.mono : ∀ a0 k,LeO (r03_Log2.f k a0) (r03_Log2.f (k+1) a0):=by
 intro a0 k
 have ih0:=r03_Log2.mono_l k
 exact ih0 a0
set_option maxHeartbeats 8000000 in
set_option maxRecDepth 100000 in
theorem r03_Log2.calls (k : Nat) : ∀ (a0 : Int) (r : Int) (w : World) (h : r03_Log2.f k a0=some r),
  Calls Try.prog 102 #[.int .u64 a0] w fun e w' => e=.returned (.int .i64 r)∧Drawn0 w w' := by
 induction k using Nat.strongRecOn with
 | _ k ih =>
 intro a0 r w h
 cases k with
 | zero=>exact absurd h (by simp [r03_Log2.f])
 | succ k =>
 simp only [r03_Log2.f] at h
 have H : (if a0=0 then (some (-1)) else ((r03_Log2.f k (IntKind.u64.wrap (Int.tdiv a0 2))).bind fun aa=>(some (wrap64 (1+aa)))))=some r:=h
 clear h
 by_cases c2 : a0=0
 ·
  rw [if_pos c2] at H
  obtain ⟨ac,ae⟩:=yE c2
  clear c2
  obtain rfl:=Option.some.inj H
  go_enter Try.func102,Try.ntmps102
  go_wp2
  go_ret
  exact ⟨yq,yd⟩
 rw [if_neg c2] at H
 obtain ⟨ac,ae⟩:=yF c2
 obtain ⟨aa,A3,H⟩:=ybi H
 obtain rfl:=Option.some.inj H
 go_enter Try.func102,Try.ntmps102
 go_wp2_with (first|((with_reducible refine gate_callee (f:=102) rfl ?_);refine ygl 7 Try.func102 #[.int .u64 (IntKind.u64.wrap (Int.tdiv a0 2))] ?_;(with_reducible refine (ih k (by omega) (IntKind.u64.wrap (Int.tdiv a0 2)) aa _ A3.out).mono ?_);rintro e w' ⟨rfl,⟨nd,rfl⟩⟩;refine ⟨_,rfl, ?_⟩))
 go_ret
 exact ⟨yq,yd⟩
def r06_Count.f (k : Nat) (a0 : Int) (a1 : Int) : Option (Int):=(r06_Row.f k a0).bind fun aa=>(if 0≤a1 then (if a1 < (aa.length : Int) then (some (rd aa a1)) else (none)) else (none))
theorem r06_Count.mono : ∀ a0 a1 k,LeO (r06_Count.f k a0 a1) (r06_Count.f (k+1) a0 a1):=by
 intro a0 a1 k
 unfold r06_Count.f
 repeat' with_reducible first|apply r06_Row.mono|apply yLr|apply yLn|apply yLi|apply yLb|intro _
set_option maxHeartbeats 8000000 in
set_option maxRecDepth 100000 in
theorem r06_Count.calls (k : Nat) (a0 : Int) (a1 : Int) (r : Int) (w : World) (h : r06_Count.f k a0 a1=some r) :
  Calls Try.prog 43 #[.int .i64 a0, .int .i64 a1] w fun e w' => e=.returned (.int .u64 r)∧Below w.heap.size w w' := by
 have HB:=zm (Below.refl w.heap.size w);have H:=h
 unfold r06_Count.f at H
 clear h
 obtain ⟨aa,A3,H⟩:=ybi H
 obtain ⟨c4,H⟩:=yif H
 have aj : decide (0≤a1)=true:=decide_eq_true c4
 clear c4
 obtain ⟨c5,H⟩:=yif H
 have ak : decide (a1 < (aa.length : Int))=true:=decide_eq_true c5
 clear c5
 obtain rfl:=Option.some.inj H
 go_enter Try.func43,Try.ntmps43
 go_wp2_with (first|((with_reducible refine gate_callee (f:=81) rfl ?_);refine ygl 6 Try.func81 #[.int .i64 a0] ?_;(with_reducible refine (r06_Row.calls k a0 aa _ A3.out).mono ?_);rintro e w6 ⟨al,rfl,ho0,hb⟩;refine ⟨_,rfl, ?_⟩;have ac:=zm (Kd.R_lower ho0 (zE yhb));replace HB:=ybs hb;(try clear hb);(try clear ho0);obtain ⟨Ao7,co7,eo7⟩:=Kd.R_slice ac.out;subst eo7;have ae : 0≤(a1 : Int):=yt;have af : a1 < (aa.length : Int):=yt;obtain ⟨ai,ah,ag⟩:=Kd.at_int (Kd.R_reads' ac.out).2.2 a1 ae af;cases ah;replace ae:=eq_true ae;replace af:=eq_true af))
 go_ret
 exact ⟨ye,yhb⟩
def r06_order.l0 : Nat→Int→List Int→Int→Option (List Int)
 | 0,_,_,_=>none
 | k+1,x0,x3,x4=>if x4≤x0 then ((some (([x4,wrap64 (-x4)] : List Int) : List Int)).bind fun ac=>(if x3.length+ac.length < 17592186044416 then (r06_order.l0 k x0 (x3 ++ ac) (wrap64 (x4+1))) else (none))) else (some x3)
def r06_order.f (k : Nat) (a0 : Int) : Option (List Int):=r06_order.l0 k a0 (([0] : List Int)) 1
theorem r06_order.mono_l : ∀ k,(∀ y0 y1 y2,LeO (r06_order.l0 k y0 y1 y2) (r06_order.l0 (k+1) y0 y1 y2))
 | 0=>fun _ _ _ r h=>by simp [r06_order.l0] at h
 | k+1=>by
  have ih0:=r06_order.mono_l k
  ·
   intro y0 y1 y2
   unfold r06_order.l0
   repeat' with_reducible first|apply ih0|apply yLr|apply yLn|apply yLi|apply yLb|intro _
theorem r06_order.mono : ∀ a0 k,LeO (r06_order.f k a0) (r06_order.f (k+1) a0):=by
 intro a0 k
 have ih0:=r06_order.mono_l k
 unfold r06_order.f
 repeat' with_reducible first|apply ih0|apply yLr|apply yLn|apply yLi|apply yLb|intro _
set_option maxHeartbeats 8000000 in
set_option maxRecDepth 100000 in
theorem r06_order.calls (k : Nat) (a0 : Int) (r : List Int) (w : World) (h : r06_order.f k a0=some r) :
  Calls Try.prog 82 #[.int .i64 a0] w fun e w' => ∃ v0_ : Value,e=.returned (v0_)∧Kd.R (Kd.int .i64) 3 w' w.heap.size (fun _=>True) v0_ r∧Below w.heap.size w w' := by
 have HB:=zm (Below.refl w.heap.size w);have H:=h
 unfold r06_order.f at H
 clear h
 obtain ⟨am,ah⟩ : ∃ y_ : List Int,y_=(([0] : List Int)):=⟨_,rfl⟩
 replace H : (r06_order.l0 k a0 am 1)=some r:=yrw ah H
 have ak:=zm ah;clear ah
 have H' := zm H
 clear H
 go_enter Try.func82,Try.ntmps82
 go_wp2_with (first|((with_reducible refine gate_dst (N:=5) rfl ?_);refine Kd.R_lit (Kd.int .i64) _ 3 ?hg (N:=5) ?hd (xs:=([0] : List Int)) (inner := [.int .i64 0]) (ok:=fun _=>True) (okp:=fun _=>True) ?hr ?hp (fun _ hk=>hk) trivial (Below.refl _ _) (Nat.le_refl _) (by simp) ?_;(case hd=>rfl);(case hg=>rfl);(case hr=>first|(go_simp;done)|(go_simp;rfl));(case hp=>exact (Reps.one (show Kd.M (Kd.int .i64) _ _ _ 0 [.int .i64 0] from rfl) (Reps.none _ _)));intro aw w2 ho3 hb hg_ hnew_;clear hg_ hnew_;(first|rw [← ak.out] at ho3|(simp only [Int.reduceToNat] at ho3;rw [← ak.out] at ho3));have ao:=zm (Kd.R_lower ho3 (zE yhb));replace HB:=ybs hb;clear hb ho3))
 go_loopg [3,4] k (fun kq v3 v4 w' => ∃ (af : List Int) (aa : Int),v4=.int .i64 aa∧Aside0 (r06_order.l0 kq a0 af aa=some r)∧Aside0 (kq≤k)∧Aside0 (Kd.R (Kd.int .i64) 3 w' w.heap.size (fun _=>True) v3 af)∧Aside0 (Below w.heap.size w w'))
 case atStart=>exact ⟨(am),(1),yq,H',⟨Nat.le_refl _⟩,⟨yr ao⟩,⟨yhb⟩⟩
 case round =>
  clear H'
  obtain ⟨af,aa,rfl,HA,HK1,ag,HB⟩:=hrel
  obtain ⟨k1,rfl⟩:=ysu gk (fun h=>by subst h;exact absurd HA.out (by simp [r06_order.l0]))
  have H:=HA.out;clear HA
  simp only [r06_order.l0] at H
  by_cases c4 : aa≤a0
  ·
   rw [if_pos c4] at H
   have av:=yD c4
   clear c4
   obtain ⟨ac,ai⟩ : ∃ y_ : List Int,y_=(([aa,wrap64 (-aa)] : List Int)):=⟨_,rfl⟩
   replace H : (if af.length+ac.length < 17592186044416 then (r06_order.l0 k1 a0 (af ++ ac) (wrap64 (aa+1))) else (none))=some r:=yrw ai H
   have al:=zm ai;clear ai
   obtain ⟨c5,H⟩:=yif H
   have LMc5:=zm c5;clear c5
   obtain ⟨ap,aj⟩ : ∃ y_ : List Int,y_=(af ++ ac):=⟨_,rfl⟩
   replace H : (r06_order.l0 k1 a0 ap (wrap64 (aa+1)))=some r:=yrw aj H
   have aq:=zm aj;clear aj
   have H' := zm H
   clear H
   go_wp2_with (first|((with_reducible refine gate_dst (N:=15) rfl ?_);refine Kd.R_lit (Kd.int .i64) _ 3 ?hg (N:=15) ?hd (xs:=([aa,wrap64 (-aa)] : List Int)) (inner := [.int .i64 aa, .int .i64 (wrap64 (-aa))]) (ok:=fun _=>True) (okp:=fun _=>True) ?hr ?hp (fun _ hk=>hk) trivial (Below.refl _ _) (Nat.le_refl _) (by simp) ?_;(case hd=>rfl);(case hg=>rfl);(case hr=>first|(go_simp;done)|(go_simp;rfl));(case hp=>exact (Reps.one (show Kd.M (Kd.int .i64) _ _ _ aa [.int .i64 aa] from rfl) (Reps.one (show Kd.M (Kd.int .i64) _ _ _ (wrap64 (-aa)) [.int .i64 (wrap64 (-aa))] from rfl) (Reps.none _ _))));intro ax w6 ho7 hb hg_ hnew_;clear hg_ hnew_;(first|rw [← al.out] at ho7|(simp only [Int.reduceToNat] at ho7;rw [← al.out] at ho7));have ae:=zm (Kd.R_lower (Kd.R_new' ho7 (Kd.R_lt (yr ag))) (zE yhb));replace ag:=zm (Kd.R_elder' (yr ag) (Kd.R_base ho7) hb);replace HB:=ybs hb;clear hb ho7;obtain ⟨Ao9,co9,eo9⟩:=Kd.R_slice ae.out;subst eo9)|((with_reducible refine gate_builtin (b:=.append) (xs := #[.tmp 11, .tmp 15]) rfl ?_);at_builtin;refine Kd.R_append_rows (Kd.int .i64) (w0:=w) w.heap.size rfl (.tmp 11) (.tmp 15) 49 3 (.int .i64 0) 8 rfl Try.underlying49 info3 rfl (by decide) (by omega) u3 af ac _ _ _ (fun k_=>some k_≠(.slice Ao9 ac.length co9 : Value).ownBlock) (fun _=>False) rfl rfl ?aO ?aR (fun _ _ h=>h) (fun _ h=>h.elim) ?aF ?aB ?aS ?aL ?_;(case aR=>exact yce (Kd.R_reads' ae.out).2.2);(case aB=>exact yhb);(case aF=>exact (fun k_ hk=>Kd.fresh' (Kd.R_lt (yr ae)) k_ hk));(case aO=>exact (yR0 ag));(case aS=>exact (zE yhb));(case aL=>have:=LMc5.out;omega);intro ay w8 ho hb hg hat;rw [← aq.out] at ho;replace ae:=zm (Kd.R_after (ok:=(fun _=>True)) (yr ae) hg hat);replace HB:=zm (hb);have au:=zm (ho);clear ag;clear ho hb hg hat))
   go_roundg k1
   case measure=>exact yom1 HK1
   case rel=>exact ⟨(ap),(wrap64 (aa+1)),yq,H',⟨yom1 HK1⟩,⟨yR0 au⟩,⟨yhb⟩⟩
  rw [if_neg c4] at H
  have av:=yG c4
  clear c4
  obtain rfl:=Option.some.inj H
  go_wp2
  go_ret
  exact ⟨_,ye,yr ag,yhb⟩
mutual
def r06_Index.l0 : Nat→List Int→Int→Int→Int→Option (Int)
 | 0,_,_,_,_=>none
 | k+1,x0,x3,x4,x5=>if x5 < (x0.length : Int) then ((r06_Row.f k (wrap64 ((wrap64 ((x0.length : Int) - x5)) - 1))).bind fun ai=>((r06_order.f k x3).bind fun ae=>(r06_Index.l1 k x0 x3 x4 x5 ai ae 0))) else (some x4)
def r06_Index.l1 : Nat→List Int→Int→Int→Int→List Int→List Int→Int→Option (Int)
 | 0,_,_,_,_,_,_,_=>none
 | k+1,x0,x3,x4,x5,x6,x7,x8=>if x8 < (x7.length : Int) then (if 0≤x8 then (if 0≤x5 then (if x5 < (x0.length : Int) then (if (rd x7 x8)=(rd x0 x5) then ((r06_Size.f k (rd x0 x5)).bind fun aD=>(r06_Index.l0 k x0 (wrap64 (x3 - aD)) x4 (wrap64 (x5+1)))) else ((r06_Size.f k (rd x7 x8)).bind fun am=>(if 0≤(wrap64 (x3 - am)) then (if (wrap64 (x3 - am)) < (x6.length : Int) then (r06_Index.l1 k x0 x3 (IntKind.u64.wrap (x4+(rd x6 (wrap64 (x3 - am))))) x5 x6 x7 (wrap64 (x8+1))) else (none)) else (none)))) else (none)) else (none)) else (none)) else (if 0≤x5 then (if x5 < (x0.length : Int) then ((r06_Size.f k (rd x0 x5)).bind fun aE=>(r06_Index.l0 k x0 (wrap64 (x3 - aE)) x4 (wrap64 (x5+1)))) else (none)) else (none))
end
def r06_Index.f (k : Nat) (l0 : List Int) : Option (Int):=(r06_Pulses.f k l0).bind fun aG=>(r06_Index.l0 k l0 aG 0 0)
theorem r06_Index.mono_l : ∀ k,(∀ y0 y1 y2 y3,LeO (r06_Index.l0 k y0 y1 y2 y3) (r06_Index.l0 (k+1) y0 y1 y2 y3))∧(∀ y0 y1 y2 y3 y4 y5 y6,LeO (r06_Index.l1 k y0 y1 y2 y3 y4 y5 y6) (r06_Index.l1 (k+1) y0 y1 y2 y3 y4 y5 y6))
 | 0=>⟨fun _ _ _ _ r h=>by simp [r06_Index.l0] at h,fun _ _ _ _ _ _ _ r h=>by simp [r06_Index.l1] at h⟩
 | k+1=>by
  obtain ⟨ih0,ih1⟩:=r06_Index.mono_l k
  refine ⟨?_, ?_⟩
  ·
   intro y0 y1 y2 y3
   unfold r06_Index.l0
   repeat' with_reducible first|apply ih0|apply ih1|apply r06_Pulses.mono|apply r06_Row.mono|apply r06_Size.mono|apply r06_order.mono|apply yLr|apply yLn|apply yLi|apply yLb|intro _
  intro y0 y1 y2 y3 y4 y5 y6
  unfold r06_Index.l1
  repeat' with_reducible first|apply ih0|apply ih1|apply r06_Pulses.mono|apply r06_Row.mono|apply r06_Size.mono|apply r06_order.mono|apply yLr|apply yLn|apply yLi|apply yLb|intro _
theorem r06_Index.mono : ∀ a0 k,LeO (r06_Index.f k a0) (r06_Index.f (k+1) a0):=by
 intro a0 k
 obtain ⟨ih0,ih1⟩:=r06_Index.mono_l k
 unfold r06_Index.f
 repeat' with_reducible first|apply ih0|apply ih1|apply r06_Pulses.mono|apply r06_Row.mono|apply r06_Size.mono|apply r06_order.mono|apply yLr|apply yLn|apply yLi|apply yLb|intro _
set_option maxHeartbeats 8000000 in
set_option maxRecDepth 100000 in
theorem r06_Index.calls (k : Nat) (A0 : Option Addr) (c0 : Nat) (l0 : List Int) (r : Int) (w : World) (hr0 : Kd.C (Kd.int .i64) w A0 l0.length l0) (hc0 : l0.length≤c0) (h : r06_Index.f k l0=some r) :
  Calls Try.prog 42 #[.slice A0 l0.length c0] w fun e w' => e=.returned (.int .u64 r)∧Below w.heap.size w w' := by
 have HR0:=zm hr0;have HC0:=zm hc0;clear hr0 hc0;have HB:=zm (Below.refl w.heap.size w);have H:=h
 unfold r06_Index.f at H
 clear h
 obtain ⟨aG,A2,H⟩:=ybi H
 have H' := zm H
 clear H
 go_enter Try.func42,Try.ntmps42
 go_wp2_with (first|(go_at_call 40;(with_reducible refine (r06_Pulses.calls k _ _ l0 aG _ ?ao HC0.out A2.out).mono ?_);(case ao=>exact yce HR0.out);rintro e w' ⟨rfl,⟨nd,rfl⟩⟩;(try exact yww)))
 repeat (go_quiet (first|(go_at_call 40;(with_reducible refine (r06_Pulses.calls k _ _ l0 aG _ ?ao HC0.out A2.out).mono ?_);(case ao=>exact yce HR0.out);rintro e w' ⟨rfl,⟨nd,rfl⟩⟩;(try exact yww)));try go_wp2_with (first|(go_at_call 40;(with_reducible refine (r06_Pulses.calls k _ _ l0 aG _ ?ao HC0.out A2.out).mono ?_);(case ao=>exact yce HR0.out);rintro e w' ⟨rfl,⟨nd,rfl⟩⟩;(try exact yww))))
 go_loopg [3,4,5] k (fun kq v3 v4 v5 w' => ∃ (aj : Int) (aM : Int) (aa : Int),v3=.int .i64 aj∧v4=.int .u64 aM∧v5=.int .i64 aa∧Aside0 (r06_Index.l0 kq l0 aj aM aa=some r)∧Aside0 (kq≤k)∧Aside0 (Below w.heap.size w w'))
 case atStart=>exact ⟨(aG),(0),(0),yq,yq,yq,H',⟨Nat.le_refl _⟩,⟨yhb⟩⟩
 case round =>
  clear H'
  obtain ⟨aj,aM,aa,rfl,rfl,rfl,HA,HK1,HB⟩:=hrel
  obtain ⟨k1,rfl⟩:=ysu gk (fun h=>by subst h;exact absurd HA.out (by simp [r06_Index.l0]))
  have H:=HA.out;clear HA
  simp only [r06_Index.l0] at H
  by_cases c3 : aa < (l0.length : Int)
  ·
   rw [if_pos c3] at H
   have bc:=yD c3
   clear c3
   obtain ⟨ai,A4,H⟩:=ybi H
   obtain ⟨ae,A5,H⟩:=ybi H
   have H' := zm H
   clear H
   go_wp2_with (first|(go_at_call 81;(with_reducible refine (r06_Row.calls k1 (wrap64 ((wrap64 ((l0.length : Int) - aa)) - 1)) ai _ A4.out).mono ?_);rintro e w6 ⟨aV,rfl,ho0,hb⟩;have af:=zm (Kd.R_lower ho0 (zE yhb));replace HB:=ybs hb;(try clear hb);(try clear ho0))|(go_at_call 82;(with_reducible refine (r06_order.calls k1 aj ae _ A5.out).mono ?_);rintro e w7 ⟨aW,rfl,ho0,hb⟩;replace af:=yRb af hb;have aI:=zm (Kd.R_lower ho0 (zE yhb));replace HB:=ybs hb;(try clear hb);(try clear ho0)))
   repeat (go_quiet (first|(go_at_call 81;(with_reducible refine (r06_Row.calls k1 (wrap64 ((wrap64 ((l0.length : Int) - aa)) - 1)) ai _ A4.out).mono ?_);rintro e w6 ⟨aV,rfl,ho0,hb⟩;have af:=zm (Kd.R_lower ho0 (zE yhb));replace HB:=ybs hb;(try clear hb);(try clear ho0))|(go_at_call 82;(with_reducible refine (r06_order.calls k1 aj ae _ A5.out).mono ?_);rintro e w7 ⟨aW,rfl,ho0,hb⟩;replace af:=yRb af hb;have aI:=zm (Kd.R_lower ho0 (zE yhb));replace HB:=ybs hb;(try clear hb);(try clear ho0)));try go_wp2_with (first|(go_at_call 81;(with_reducible refine (r06_Row.calls k1 (wrap64 ((wrap64 ((l0.length : Int) - aa)) - 1)) ai _ A4.out).mono ?_);rintro e w6 ⟨aV,rfl,ho0,hb⟩;have af:=zm (Kd.R_lower ho0 (zE yhb));replace HB:=ybs hb;(try clear hb);(try clear ho0))|(go_at_call 82;(with_reducible refine (r06_order.calls k1 aj ae _ A5.out).mono ?_);rintro e w7 ⟨aW,rfl,ho0,hb⟩;replace af:=yRb af hb;have aI:=zm (Kd.R_lower ho0 (zE yhb));replace HB:=ybs hb;(try clear hb);(try clear ho0))))
   go_loopg [4,8] k1 (fun kq v4 v8 w' => ∃ (aH : Int) (ac : Int),v4=.int .u64 aH∧v8=.int .i64 ac∧Aside0 (r06_Index.l1 kq l0 aj aH aa ai ae ac=some r)∧Aside0 (kq≤k1)∧Aside0 (Kd.R (Kd.int .u64) 51 w' w.heap.size (fun _=>True) aV ai)∧Aside0 (Kd.R (Kd.int .i64) 3 w' w.heap.size (fun _=>True) aW ae)∧Aside0 (Below w.heap.size w w'))
   case atStart=>exact ⟨(aM),(0),yq,yq,H',⟨Nat.le_refl _⟩,⟨yr af⟩,⟨yr aI⟩,⟨yhb⟩⟩
   case round =>
    clear H'
    try clear bc
    obtain ⟨aH,ac,rfl,rfl,HA,HK2,aq,au,HB⟩:=hrel
    obtain ⟨k2,rfl⟩:=ysu gk (fun h=>by subst h;exact absurd HA.out (by simp [r06_Index.l1]))
    have H:=HA.out;clear HA
    simp only [r06_Index.l1] at H
    by_cases c8 : ac < (ae.length : Int)
    ·
     rw [if_pos c8] at H
     have bl:=yD c8
     clear c8
     obtain ⟨c9,H⟩:=yif H
     have bB : decide (0≤ac)=true:=decide_eq_true c9
     clear c9
     obtain ⟨c10,H⟩:=yif H
     have bs : decide (0≤aa)=true:=decide_eq_true c10
     clear c10
     obtain ⟨c11,H⟩:=yif H
     have bu : decide (aa < (l0.length : Int))=true:=decide_eq_true c11
     clear c11
     by_cases c12 : (rd ae ac)=(rd l0 aa)
     ·
      rw [if_pos c12] at H
      obtain ⟨bd,bf⟩:=yE c12
      clear c12
      obtain ⟨aD,A13,H⟩:=ybi H
      have H' := zm H
      clear H
      obtain ⟨bC,bD,bm⟩:=Kd.R_slice au.out
      subst bm
      have av : 0≤(ac : Int):=yt
      have aw : ac < (ae.length : Int):=yt
      obtain ⟨aQ,aX,aN⟩:=Kd.at_int (Kd.R_reads' au.out).2.2 ac av aw
      cases aX
      replace av:=eq_true av
      replace aw:=eq_true aw
      have ax : 0≤(aa : Int):=yt
      have ay : aa < (l0.length : Int):=yt
      obtain ⟨aT,aY,ag⟩:=Kd.at_int HR0.out aa ax ay
      cases aY
      replace ag:=yhx HB ag
      replace ax:=eq_true ax
      replace ay:=eq_true ay
      have aZ : 0≤(aa : Int):=yt
      have a7 : aa < (l0.length : Int):=yt
      obtain ⟨bg,bn,az⟩:=Kd.at_int HR0.out aa aZ a7
      obtain rfl : aT=bg:=(by injection bn)
      replace az:=yhx HB az
      replace aZ:=eq_true aZ
      replace a7:=eq_true a7
      go_wp2_with (first|(go_at_call 80;(with_reducible refine (r06_Size.calls k2 (rd l0 aa) aD _ A13.out).mono ?_);rintro e w' ⟨rfl,⟨nd,rfl⟩⟩;(try exact yww)))
      repeat (go_quiet (first|(go_at_call 80;(with_reducible refine (r06_Size.calls k2 (rd l0 aa) aD _ A13.out).mono ?_);rintro e w' ⟨rfl,⟨nd,rfl⟩⟩;(try exact yww)));try go_wp2_with (first|(go_at_call 80;(with_reducible refine (r06_Size.calls k2 (rd l0 aa) aD _ A13.out).mono ?_);rintro e w' ⟨rfl,⟨nd,rfl⟩⟩;(try exact yww))))
      go_roundg k2
      case measure=>exact yom2 HK1 HK2
      case rel=>exact ⟨(wrap64 (aj - aD)),(aH),(wrap64 (aa+1)),yq,yq,yq,H',⟨yom2 HK1 HK2⟩,⟨yhb⟩⟩
     rw [if_neg c12] at H
     obtain ⟨bd,bf⟩:=yF c12
     obtain ⟨am,A15,H⟩:=ybi H
     obtain ⟨ah,ap⟩ : ∃ j_ : Int,(wrap64 (aj - am))=j_:=⟨_,rfl⟩
     (first|rw [ap] at H|simp only [ap] at H)
     (try rw [ap] at A15)
     have hji16w : (IntKind.i64.wrap (aj - am))=ah:=(i64_w _).trans ap
     obtain ⟨c17,H⟩:=yif H
     have bv : decide (0≤(ah))=true:=decide_eq_true c17
     clear c17
     obtain ⟨c18,H⟩:=yif H
     have bw : decide ((ah) < (ai.length : Int))=true:=decide_eq_true c18
     clear c18
     have H' := zm H
     clear H
     obtain ⟨bE,bF,bo⟩:=Kd.R_slice au.out
     subst bo
     have av : 0≤(ac : Int):=yt
     have aw : ac < (ae.length : Int):=yt
     obtain ⟨aQ,aX,aN⟩:=Kd.at_int (Kd.R_reads' au.out).2.2 ac av aw
     cases aX
     replace av:=eq_true av
     replace aw:=eq_true aw
     have ax : 0≤(aa : Int):=yt
     have ay : aa < (l0.length : Int):=yt
     obtain ⟨aT,aY,ag⟩:=Kd.at_int HR0.out aa ax ay
     cases aY
     replace ag:=yhx HB ag
     replace ax:=eq_true ax
     replace ay:=eq_true ay
     have a8 : 0≤(ac : Int):=yt
     have a9 : ac < (ae.length : Int):=yt
     obtain ⟨bh,bp,bk⟩:=Kd.at_int (Kd.R_reads' au.out).2.2 ac a8 a9
     obtain rfl : aQ=bh:=(by injection bp)
     replace a8:=eq_true a8
     replace a9:=eq_true a9
     go_wp2_with (first|(go_at_call 80;(with_reducible refine (r06_Size.calls k2 (rd ae ac) am _ A15.out).mono ?_);rintro e w' ⟨rfl,⟨nd,rfl⟩⟩;(try exact yww);obtain ⟨bi,bj,aJ⟩:=Kd.R_slice aq.out;subst aJ;have ak : 0≤((ah) : Int):=yt;have al : (ah) < (ai.length : Int):=yt;obtain ⟨aU,aK,aA⟩:=Kd.at_int (Kd.R_reads' aq.out).2.2 (ah) ak al;cases aK;replace ak:=eq_true ak;replace al:=eq_true al))
     repeat (go_quiet (first|(go_at_call 80;(with_reducible refine (r06_Size.calls k2 (rd ae ac) am _ A15.out).mono ?_);rintro e w' ⟨rfl,⟨nd,rfl⟩⟩;(try exact yww);obtain ⟨bi,bj,aJ⟩:=Kd.R_slice aq.out;subst aJ;have ak : 0≤((ah) : Int):=yt;have al : (ah) < (ai.length : Int):=yt;obtain ⟨aU,aK,aA⟩:=Kd.at_int (Kd.R_reads' aq.out).2.2 (ah) ak al;cases aK;replace ak:=eq_true ak;replace al:=eq_true al));try go_wp2_with (first|(go_at_call 80;(with_reducible refine (r06_Size.calls k2 (rd ae ac) am _ A15.out).mono ?_);rintro e w' ⟨rfl,⟨nd,rfl⟩⟩;(try exact yww);obtain ⟨bi,bj,aJ⟩:=Kd.R_slice aq.out;subst aJ;have ak : 0≤((ah) : Int):=yt;have al : (ah) < (ai.length : Int):=yt;obtain ⟨aU,aK,aA⟩:=Kd.at_int (Kd.R_reads' aq.out).2.2 (ah) ak al;cases aK;replace ak:=eq_true ak;replace al:=eq_true al)))
     go_roundg k2
     case measure=>exact yom2 HK1 HK2
     case rel=>exact ⟨(IntKind.u64.wrap (aH+(rd ai (ah)))),(wrap64 (ac+1)),(by first|rfl|(simp;done)|(simp only [← ap] <;> (first|rfl|simp))|(simp [*];done)),yq,H',⟨yom2 HK1 HK2⟩,⟨yr aq⟩,⟨yr au⟩,⟨yhb⟩⟩
    rw [if_neg c8] at H
    have bl:=yG c8
    clear c8
    obtain ⟨c21,H⟩:=yif H
    have bx : decide (0≤aa)=true:=decide_eq_true c21
    clear c21
    obtain ⟨c22,H⟩:=yif H
    have bz : decide (aa < (l0.length : Int))=true:=decide_eq_true c22
    clear c22
    obtain ⟨aE,A23,H⟩:=ybi H
    have H' := zm H
    clear H
    obtain ⟨bG,bH,bq⟩:=Kd.R_slice au.out
    subst bq
    have ba : 0≤(aa : Int):=yt
    have bb : aa < (l0.length : Int):=yt
    obtain ⟨bA,br,aC⟩:=Kd.at_int HR0.out aa ba bb
    cases br
    replace aC:=yhx HB aC
    replace ba:=eq_true ba
    replace bb:=eq_true bb
    go_wp2_with (first|(go_at_call 80;(with_reducible refine (r06_Size.calls k2 (rd l0 aa) aE _ A23.out).mono ?_);rintro e w' ⟨rfl,⟨nd,rfl⟩⟩;(try exact yww)))
    repeat (go_quiet (first|(go_at_call 80;(with_reducible refine (r06_Size.calls k2 (rd l0 aa) aE _ A23.out).mono ?_);rintro e w' ⟨rfl,⟨nd,rfl⟩⟩;(try exact yww)));try go_wp2_with (first|(go_at_call 80;(with_reducible refine (r06_Size.calls k2 (rd l0 aa) aE _ A23.out).mono ?_);rintro e w' ⟨rfl,⟨nd,rfl⟩⟩;(try exact yww))))
    go_roundg k2
    case measure=>exact yom2 HK1 HK2
    case rel=>exact ⟨(wrap64 (aj - aE)),(aH),(wrap64 (aa+1)),yq,yq,yq,H',⟨yom2 HK1 HK2⟩,⟨yhb⟩⟩
  rw [if_neg c3] at H
  have bc:=yG c3
  clear c3
  obtain rfl:=Option.some.inj H
  go_wp2
  repeat (go_quiet (fail);try go_wp2)
  go_ret
  exact ⟨ye,yhb⟩
def r06_Cost.f (k : Nat) (a0 : Int) (a1 : Int) : Option (Int):=(r06_Count.f k a0 a1).bind fun aa=>(if (IntKind.u64.wrap (aa - 1)) < 65536 then ((r03_Log2.f k (IntKind.u64.wrap (aa - 1))).bind fun ac=>(some (wrap64 (1+ac)))) else ((r03_Log2.f k (IntKind.u64.wrap (Int.tdiv (IntKind.u64.wrap (aa - 1)) 65536))).bind fun ae=>(some (wrap64 (17+ae)))))
theorem r06_Cost.mono : ∀ a0 a1 k,LeO (r06_Cost.f k a0 a1) (r06_Cost.f (k+1) a0 a1):=by
 intro a0 a1 k
 unfold r06_Cost.f
 repeat' with_reducible first|apply r03_Log2.mono|apply r06_Count.mono|apply yLr|apply yLn|apply yLi|apply yLb|intro _
set_option maxHeartbeats 8000000 in
set_option maxRecDepth 100000 in
theorem r06_Cost.calls (k : Nat) (a0 : Int) (a1 : Int) (r : Int) (w : World) (h : r06_Cost.f k a0 a1=some r) :
  Calls Try.prog 101 #[.int .i64 a0, .int .i64 a1] w fun e w' => e=.returned (.int .i64 r)∧Below w.heap.size w w' := by
 have HB:=zm (Below.refl w.heap.size w);have H:=h
 unfold r06_Cost.f at H
 clear h
 obtain ⟨aa,A3,H⟩:=ybi H
 by_cases c4 : (IntKind.u64.wrap (aa - 1)) < 65536
 ·
  rw [if_pos c4] at H
  have af:=yD c4
  clear c4
  obtain ⟨ac,A5,H⟩:=ybi H
  obtain rfl:=Option.some.inj H
  go_enter Try.func101,Try.ntmps101
  go_wp2_with (first|((with_reducible refine gate_callee (f:=43) rfl ?_);refine ygl 8 Try.func43 #[.int .i64 a0, .int .i64 a1] ?_;(with_reducible refine (r06_Count.calls k a0 a1 aa _ A3.out).mono ?_);rintro e w6 ⟨rfl,hb⟩;refine ⟨_,rfl, ?_⟩;replace HB:=ybs hb;(try clear hb))|((with_reducible refine gate_callee (f:=102) rfl ?_);refine ygl 13 Try.func102 #[.int .u64 (IntKind.u64.wrap (aa - 1))] ?_;(with_reducible refine (r03_Log2.calls k (IntKind.u64.wrap (aa - 1)) ac _ A5.out).mono ?_);rintro e w' ⟨rfl,⟨nd,rfl⟩⟩;refine ⟨_,rfl, ?_⟩))
  go_ret
  exact ⟨ye,yhb⟩
 rw [if_neg c4] at H
 have af:=yG c4
 clear c4
 obtain ⟨ae,A7,H⟩:=ybi H
 obtain rfl:=Option.some.inj H
 go_enter Try.func101,Try.ntmps101
 go_wp2_with (first|((with_reducible refine gate_callee (f:=43) rfl ?_);refine ygl 8 Try.func43 #[.int .i64 a0, .int .i64 a1] ?_;(with_reducible refine (r06_Count.calls k a0 a1 aa _ A3.out).mono ?_);rintro e w8 ⟨rfl,hb⟩;refine ⟨_,rfl, ?_⟩;replace HB:=ybs hb;(try clear hb))|((with_reducible refine gate_callee (f:=102) rfl ?_);refine ygl 17 Try.func102 #[.int .u64 (IntKind.u64.wrap (Int.tdiv (IntKind.u64.wrap (aa - 1)) 65536))] ?_;(with_reducible refine (r03_Log2.calls k (IntKind.u64.wrap (Int.tdiv (IntKind.u64.wrap (aa - 1)) 65536)) ae _ A7.out).mono ?_);rintro e w' ⟨rfl,⟨nd,rfl⟩⟩;refine ⟨_,rfl, ?_⟩))
 go_ret
 exact ⟨ye,yhb⟩
def r10_Width.j0 : Nat→Int→Bool→Option (Int)
 | 0,_,_=>none
 | k+1,x3,x4=>if x4=true then (some 1) else (if x3=2 then (some 2) else (if x3=3 then (some 4) else (if x3=4 then (some 8) else (some 0))))
def r10_Width.f (k : Nat) (a0 : Int) : Option (Int):=if a0=0 then (r10_Width.j0 k a0 (a0 == 0)) else (r10_Width.j0 k a0 (a0 == 1))
theorem r10_Width.mono_l : ∀ k,(∀ y0 y1,LeO (r10_Width.j0 k y0 y1) (r10_Width.j0 (k+1) y0 y1))
 | 0=>fun _ _ r h=>by simp [r10_Width.j0] at h
 | k+1=>by
  have ih0:=r10_Width.mono_l k
  ·
   intro y0 y1
   unfold r10_Width.j0
   repeat' with_reducible first|apply ih0|apply yLr|apply yLn|apply yLi|apply yLb|intro _
theorem r10_Width.mono : ∀ a0 k,LeO (r10_Width.f k a0) (r10_Width.f (k+1) a0):=by
 intro a0 k
 have ih0:=r10_Width.mono_l k
 unfold r10_Width.f
 repeat' with_reducible first|apply ih0|apply yLr|apply yLn|apply yLi|apply yLb|intro _
set_option maxHeartbeats 8000000 in
set_option maxRecDepth 100000 in
theorem r10_Width.calls (k : Nat) (a0 : Int) (r : Int) (w : World) (h : r10_Width.f k a0=some r) :
  Calls Try.prog 46 #[.int .i64 a0] w fun e w' => e=.returned (.int .i64 r)∧Drawn0 w w' := by
 have H:=h
 unfold r10_Width.f at H
 clear h;have HC2:=zm H;clear H
 go_enter Try.func46,Try.ntmps46
 go_upto_if 4 with (fail)
 go_cut [4] (fun v4 wc => ∃ (kq : Nat) (ac : Bool),v4=.bool ac∧Aside0 (r10_Width.j0 kq a0 ac=some r)∧Aside0 (kq≤k)∧Drawn0 w wc)
 case first =>
  have H:=HC2.out;clear HC2
  by_cases c3 : a0=0
  ·
   rw [if_pos c3] at H
   obtain ⟨aa,ae⟩:=yE c3
   clear c3
   (first|rw [aa]|(simp only [i64_w,i32_w];rw [aa])|skip)
   have H' := zm H
   clear H
   go_wp2
   go_meet
   case rel=>exact ⟨_,((a0 == 0)),yq,H',⟨yo⟩,yd⟩
  rw [if_neg c3] at H
  obtain ⟨aa,ae⟩:=yF c3
  (first|rw [aa]|(simp only [i64_w,i32_w];rw [aa])|skip)
  have H' := zm H
  clear H
  go_wp2
  go_meet
  case rel=>exact ⟨_,((a0 == 1)),yq,H',⟨yo⟩,yd⟩
 case rest =>
  clear HC2
  obtain ⟨kq,ac,rfl,HA,HJ1,⟨mc1,rfl⟩⟩:=hcut
  obtain ⟨kj1,rfl⟩:=ysu kq (fun h=>by subst h;exact absurd HA.out (by simp [r10_Width.j0]))
  have H:=HA.out;clear HA
  simp only [r10_Width.j0] at H
  by_cases c4 : ac=true
  ·
   subst c4
   rw [if_pos rfl] at H
   obtain rfl:=Option.some.inj H
   go_wp2
   go_ret
   exact ⟨yq,yd⟩
  replace c4:=Bool.eq_false_iff.mpr c4
  subst c4
  rw [ynf] at H
  by_cases c5 : a0=2
  ·
   rw [if_pos c5] at H
   obtain ⟨af,ag⟩:=yE c5
   clear c5
   obtain rfl:=Option.some.inj H
   go_wp2
   go_ret
   exact ⟨yq,yd⟩
  rw [if_neg c5] at H
  obtain ⟨af,ag⟩:=yF c5
  by_cases c6 : a0=3
  ·
   rw [if_pos c6] at H
   obtain ⟨ah,ai⟩:=yE c6
   clear c6
   obtain rfl:=Option.some.inj H
   go_wp2
   go_ret
   exact ⟨yq,yd⟩
  rw [if_neg c6] at H
  obtain ⟨ah,ai⟩:=yF c6
  by_cases c7 : a0=4
  ·
   rw [if_pos c7] at H
   obtain ⟨aj,ak⟩:=yE c7
   clear c7
   obtain rfl:=Option.some.inj H
   go_wp2
   go_ret
   exact ⟨yq,yd⟩
  rw [if_neg c7] at H
  obtain ⟨aj,ak⟩:=yF c7
  obtain rfl:=Option.some.inj H
  go_wp2
  go_ret
  exact ⟨yq,yd⟩
def r12_More.f (l0 : List Int) (a1 : Int) : Option (List Int):=(some (([] : List Int) : List Int)).bind fun ae=>(if ae.length+l0.length < 17592186044416 then ((some (ae ++ l0 : List Int)).bind fun aa=>(if 0≤a1 then (if a1 < (aa.length : Int) then (some (aa.set (a1 : Int).toNat (wrap64 ((rd aa a1)+1)))) else (none)) else (none))) else (none))
set_option maxHeartbeats 8000000 in
set_option maxRecDepth 100000 in
theorem r12_More.calls (A0 : Option Addr) (c0 : Nat) (l0 : List Int) (a1 : Int) (r : List Int) (w : World) (hr0 : Kd.C (Kd.int .i64) w A0 l0.length l0) (hc0 : l0.length≤c0) (h : r12_More.f l0 a1=some r) :
  Calls Try.prog 96 #[.slice A0 l0.length c0, .int .i64 a1] w fun e w' => ∃ v0_ : Value,e=.returned (v0_)∧Kd.R (Kd.int .i64) 3 w' w.heap.size (fun _=>True) v0_ r∧Below w.heap.size w w' := by
 have HR0:=zm hr0;have HC0:=zm hc0;clear hr0 hc0;have HB:=zm (Below.refl w.heap.size w);have H:=h
 unfold r12_More.f at H
 clear h
 obtain ⟨ae,af⟩ : ∃ y_ : List Int,y_=(([] : List Int)):=⟨_,rfl⟩
 replace H : (if ae.length+l0.length < 17592186044416 then ((some (ae ++ l0 : List Int)).bind fun aa=>(if 0≤a1 then (if a1 < (aa.length : Int) then (some (aa.set (a1 : Int).toNat (wrap64 ((rd aa a1)+1)))) else (none)) else (none))) else (none))=some r:=yrw af H
 have aj:=zm af;clear af
 obtain ⟨c3,H⟩:=yif H
 have LMc3:=zm c3;clear c3
 obtain ⟨aa,ag⟩ : ∃ y_ : List Int,y_=(ae ++ l0):=⟨_,rfl⟩
 replace H : (if 0≤a1 then (if a1 < (aa.length : Int) then (some (aa.set (a1 : Int).toNat (wrap64 ((rd aa a1)+1)))) else (none)) else (none))=some r:=yrw ag H
 have ap:=zm ag;clear ag
 obtain ⟨c4,H⟩:=yif H
 have aE : decide (0≤a1)=true:=decide_eq_true c4
 clear c4
 obtain ⟨c5,H⟩:=yif H
 have aG : decide (a1 < (aa.length : Int))=true:=decide_eq_true c5
 clear c5
 obtain ⟨aq,ah⟩ : ∃ y_ : List Int,y_=(aa.set (a1 : Int).toNat (wrap64 ((rd aa a1)+1))):=⟨_,rfl⟩
 replace H : (some aq)=some r:=yrw ah H
 have au:=zm ah;clear ah
 obtain rfl:=Option.some.inj H
 go_enter Try.func96,Try.ntmps96
 go_wp2_with (first|((with_reducible refine gate_dst (N:=6) rfl ?_);refine Kd.R_lit (Kd.int .i64) _ 3 ?hg (N:=6) ?hd (xs:=([] : List Int)) (inner := []) (ok:=fun _=>True) (okp:=fun _=>True) ?hr ?hp (fun _ hk=>hk) trivial (Below.refl _ _) (Nat.le_refl _) (by simp) ?_;(case hd=>rfl);(case hg=>rfl);(case hr=>first|(go_simp;done)|(go_simp;rfl));(case hp=>exact (Reps.none _ _));intro av w7 ho8 hb hg_ hnew_;clear hg_ hnew_;(first|rw [← aj.out] at ho8|(simp only [Int.reduceToNat] at ho8;rw [← aj.out] at ho8));have ak:=zm (Kd.R_lower ho8 (zE yhb));replace HB:=ybs hb;clear hb ho8)|((with_reducible refine gate_builtin (b:=.append) (xs := #[.tmp 6, .tmp 7]) rfl ?_);at_builtin;refine Kd.R_append_rows (Kd.int .i64) (w0:=w) w.heap.size rfl (.tmp 6) (.tmp 7) 49 3 (.int .i64 0) 8 rfl Try.underlying49 info3 rfl (by decide) (by omega) av ae l0 _ _ _ (fun _=>True) (fun _=>False) rfl rfl ?aO ?aR (fun _ _ h=>h) (fun _ h=>h.elim) ?aF ?aB ?aS ?aL ?_;(case aR=>exact ycb HR0);(case aB=>exact yhb);(case aF=>exact (fun _ _=>trivial));(case aO=>exact (yr ak));(case aS=>exact (zE yhb));(case aL=>have:=LMc3.out;omega);intro aH w9 ho hb hg hat;rw [← ap.out] at ho;replace HB:=zm (hb);have ac:=zm (ho);clear ak;clear ho hb hg hat;obtain ⟨aI,aw,ax⟩:=Kd.R_slice ac.out;subst ax;have al : 0≤(a1 : Int):=yt;have am : a1 < (aa.length : Int):=yt;obtain ⟨az,ay,ai⟩:=Kd.at_int (Kd.R_reads' ac.out).2.2 a1 al am;cases ay;replace al:=eq_true al;replace am:=eq_true am;have p6 : 0≤(a1 : Int):=yt;have q6 : (a1 : Int) < ((aa.length : Int) : Int):=yt;obtain ⟨go6,co6,eo6,gb6,gl6,cl6,HG6⟩:=Kd.R_form ac.out (by omega);(first|cases eo6|(injection eo6 with ea_ en_ ec_;(first|subst ea_|(injection ea_ with ea_;subst ea_));subst ec_;clear en_));have GB6:=zm gb6;have GG6:=zm HG6;clear gb6 gl6 HG6;(first|simp only [add_plain] at ai|skip);obtain ⟨aA,aC⟩:=Kd.R_celln 0 ac.out (a1 : Int) p6 q6;replace p6:=eq_true p6;replace q6:=eq_true q6;obtain ⟨aD,hz11_⟩:=Kd.R_celln 0 ac.out (a1 : Int) (yt) (yt);have ao:=Kd.R_putg ac.out (a1 : Int) (wrap64 ((rd aa a1)+1)))|((with_reducible refine gate_store (t:=3) (p:=16) rfl ?_);refine store_event (t:=3) (p:=16) (v := ?vo_w12) (w1:=(w9.setCell ⟨go6,(a1 : Int).toNat,none⟩ (.int .i64 (wrap64 ((rd aa a1)+1))))) ?hg ?ho ?hn ?hr ?_;(case ho=>rfl);(case hg=>rfl);(case hn=>rfl);(case hr=>first|(go_simp;done)|(go_simp;rfl));intro w12 hw;have hg : w9.grownBy w12 (some go6):=(by rw [hw];exact ao.2);have hp_ : Kd.R (Kd.int .i64) 3 w12 w.heap.size (fun _=>True) (.slice (some ⟨go6,0,none⟩) aa.length aw) aq:=(by rw [hw,au.out];exact ao.1);clear ao;replace ac:=zm (hp_);replace HB:=zm ((by rw [hw];exact zk (HB.out) GB6.out : Below w.heap.size w w12));clear hg hw hp_))
 go_ret
 exact ⟨_,ye,yr ac,yhb⟩
def r12_Spent.l0 : Nat→List Int→Int→Int→Option (Int)
 | 0,_,_,_=>none
 | k+1,x0,x3,x4=>if x4 < 5 then ((r10_Width.f k x4).bind fun ae=>(if 0≤x4 then (if x4 < (x0.length : Int) then ((r06_Cost.f k ae (rd x0 x4)).bind fun af=>(r12_Spent.l0 k x0 (wrap64 (x3+af)) (wrap64 (x4+1)))) else (none)) else (none))) else (some x3)
def r12_Spent.f (k : Nat) (l0 : List Int) : Option (Int):=r12_Spent.l0 k l0 0 0
theorem r12_Spent.mono_l : ∀ k,(∀ y0 y1 y2,LeO (r12_Spent.l0 k y0 y1 y2) (r12_Spent.l0 (k+1) y0 y1 y2))
 | 0=>fun _ _ _ r h=>by simp [r12_Spent.l0] at h
 | k+1=>by
  have ih0:=r12_Spent.mono_l k
  ·
   intro y0 y1 y2
   unfold r12_Spent.l0
   repeat' with_reducible first|apply ih0|apply r06_Cost.mono|apply r10_Width.mono|apply yLr|apply yLn|apply yLi|apply yLb|intro _
theorem r12_Spent.mono : ∀ a0 k,LeO (r12_Spent.f k a0) (r12_Spent.f (k+1) a0):=by
 intro a0 k
 have ih0:=r12_Spent.mono_l k
 unfold r12_Spent.f
 repeat' with_reducible first|apply ih0|apply r06_Cost.mono|apply r10_Width.mono|apply yLr|apply yLn|apply yLi|apply yLb|intro _
def r12_Spent.T5 : Bool × List (List Nat × List Nat):=(true, [([], []),([], []),([1], [1]),([], []),([], []),([3,4], [3,4]),([5], [5]),([2,6,2], [2,6]),([0,7], [0,7]),([8,7,0,1,2,3,4,5,6,7,8], [0,8])])
def r12_Spent.B5 : List Nat := [0,0,2,0,0,24,56,126,255,511]
theorem r12_Spent.tab5 : rtab .any (opsOf Try.f99 5)=r12_Spent.T5:=by kernel_rfl
theorem r12_Spent.bits5 : waitsOk r12_Spent.T5.2 r12_Spent.B5=true:=by kernel_rfl
set_option maxHeartbeats 8000000 in
set_option maxRecDepth 100000 in
theorem r12_Spent.calls (k : Nat) (A0 : Option Addr) (c0 : Nat) (l0 : List Int) (r : Int) (w : World) (hr0 : Kd.C (Kd.int .i64) w A0 l0.length l0) (hc0 : l0.length≤c0) (h : r12_Spent.f k l0=some r) :
  Calls Try.prog 99 #[.slice A0 l0.length c0] w fun e w' => e=.returned (.int .i64 r)∧Below w.heap.size w w' := by
 have HR0:=zm hr0;have HC0:=zm hc0;clear hr0 hc0;have HB:=zm (Below.refl w.heap.size w);have H:=h
 unfold r12_Spent.f at H
 clear h
 have H' := zm H
 clear H
 go_enter Try.func99,Try.ntmps99
 go_wp2
 go_loopg [3,4] k (fun kq v3 v4 w' => ∃ (ag : Int) (aa : Int),v3=.int .i64 ag∧v4=.int .i64 aa∧Aside0 (r12_Spent.l0 kq l0 ag aa=some r)∧Aside0 (kq≤k)∧Aside0 (Below w.heap.size w w'))
 case atStart=>exact ⟨(0),(0),yq,yq,H',⟨Nat.le_refl _⟩,⟨yhb⟩⟩
 case round =>
  clear H'
  obtain ⟨ag,aa,rfl,rfl,HA,HK1,HB⟩:=hrel
  obtain ⟨k1,rfl⟩:=ysu gk (fun h=>by subst h;exact absurd HA.out (by simp [r12_Spent.l0]))
  have H:=HA.out;clear HA
  simp only [r12_Spent.l0] at H
  by_cases c2 : aa < 5
  ·
   rw [if_pos c2] at H
   have ak:=yD c2
   clear c2
   obtain ⟨ae,A3,H⟩:=ybi H
   obtain ⟨c4,H⟩:=yif H
   have am : decide (0≤aa)=true:=decide_eq_true c4
   clear c4
   obtain ⟨c5,H⟩:=yif H
   have ao : decide (aa < (l0.length : Int))=true:=decide_eq_true c5
   clear c5
   obtain ⟨af,A6,H⟩:=ybi H
   have H' := zm H
   clear H
   try go_wp2
   replace HB:=zm (zf HB.out)
   have ah : 0≤(aa : Int):=yt
   have ai : aa < (l0.length : Int):=yt
   obtain ⟨aj,al,ac⟩:=Kd.at_int HR0.out aa ah ai
   have hw705_0:=ac
   cases al
   replace ac:=yhx HB ac
   replace ah:=eq_true ah
   replace ai:=eq_true ai
   refine start_ (n:=10) (S:=fun w' => w'.cell? (aj.add (aa).toNat)=some (.int .i64 (rd l0 aa))) (ds := []) #[false,false,false,false,false,false,false,false,false,false] (by kernel_rfl) rfl rfl ((yhx HB hw705_0 :)) (fun hHeld => ?_);refine with_tabW r12_Spent.tab5 r12_Spent.bits5 (fun HT_ HW_ => ?_)
   generalize wr.drew=w7 at HB ac hHeld ⊢
   refine yp 0 9 HT_ ?_
   refine yp 1 10 HT_ ?_
   refine yp 3 12 HT_ ?_
   refine yp 4 13 HT_ ?_
   refine yp 5 14 HT_ ?_
   refine yl 6 15 HT_ HW_ hHeld ?_
   refine yw 2 11 HT_ (fun K hK => ?_)
   refine ygs Try.func46 #[.int .i64 aa] ?_
   with_reducible refine (r10_Width.calls k1 aa ae _ A3.out).mono ?_
   rintro e w' ⟨rfl,⟨nd,rfl⟩⟩
   refine ⟨_,rfl, ?_⟩
   refine hK.out _ _ ((yhx HB hw705_0 :)) (fun hHeld => ?_)
   clear hK K
   refine ym (some 11) ?_
   refine yw 7 16 HT_ (fun K hK => ?_)
   refine ygs Try.func101 #[.int .i64 ae, .int .i64 (rd l0 aa)] ?_
   with_reducible refine (r06_Cost.calls k1 ae (rd l0 aa) af _ A6.out).mono ?_
   rintro e w8 ⟨rfl,hb⟩
   refine ⟨_,rfl, ?_⟩
   replace HB:=ybs hb
   (try clear hb)
   refine hK.out _ _ ((yhx HB hw705_0 :)) (fun hHeld => ?_)
   clear hK K
   refine ym (some 16) ?_
   refine yp 8 17 HT_ ?_
   refine yp 9 3 HT_ ?_
   refine done_ (done_of HT_.out (by kernel_rfl)) ?_
   try go_wp2
   go_roundg k1
   case measure=>exact yom1 HK1
   case rel=>exact ⟨(wrap64 (ag+af)),(wrap64 (aa+1)),yq,yq,H',⟨yom1 HK1⟩,⟨yhb⟩⟩
  rw [if_neg c2] at H
  have ak:=yG c2
  clear c2
  obtain rfl:=Option.some.inj H
  go_wp2
  go_ret
  exact ⟨ye,yhb⟩
def r12_May.j0 : Nat→List Int→Int→Int→Bool→Option (Bool)
 | 0,_,_,_,_=>none
 | k+1,x1,x2,x3,x32=>if x32=true then (some false) else ((r12_More.f x1 x2).bind fun am=>((r12_Spent.f k am).bind fun aw=>(some (decide (aw≤x3)))))
def r12_May.f (k : Nat) (l0 : List Int) (l1 : List Int) (a2 : Int) (a3 : Int) : Option (Bool):=if 0≤a2 then (if a2 < (l0.length : Int) then (if (rd l0 a2) < 1 then (r12_May.j0 k l1 a2 a3 true) else (if a2 < (l1.length : Int) then (if (rd l1 a2) ≥ 12 then (r12_May.j0 k l1 a2 a3 true) else ((r10_Width.f k a2).bind fun ao=>(if ao=1 then (r12_May.j0 k l1 a2 a3 (decide ((rd l1 a2) > 0))) else (r12_May.j0 k l1 a2 a3 false)))) else (none))) else (none)) else (none)
theorem r12_May.mono_l : ∀ k,(∀ y0 y1 y2 y3,LeO (r12_May.j0 k y0 y1 y2 y3) (r12_May.j0 (k+1) y0 y1 y2 y3))
 | 0=>fun _ _ _ _ r h=>by simp [r12_May.j0] at h
 | k+1=>by
  have ih0:=r12_May.mono_l k
  ·
   intro y0 y1 y2 y3
   unfold r12_May.j0
   repeat' with_reducible first|apply ih0|apply r10_Width.mono|apply r12_Spent.mono|apply yLr|apply yLn|apply yLi|apply yLb|intro _
theorem r12_May.mono : ∀ a0 a1 a2 a3 k,LeO (r12_May.f k a0 a1 a2 a3) (r12_May.f (k+1) a0 a1 a2 a3):=by
 intro a0 a1 a2 a3 k
 have ih0:=r12_May.mono_l k
 unfold r12_May.f
 repeat' with_reducible first|apply ih0|apply r10_Width.mono|apply r12_Spent.mono|apply yLr|apply yLn|apply yLi|apply yLb|intro _
set_option maxHeartbeats 8000000 in
set_option maxRecDepth 100000 in
theorem r12_May.calls (k : Nat) (A0 : Option Addr) (c0 : Nat) (l0 : List Int) (A1 : Option Addr) (c1 : Nat) (l1 : List Int) (a2 : Int) (a3 : Int) (r : Bool) (w : World) (hr0 : Kd.C (Kd.int .i64) w A0 l0.length l0) (hc0 : l0.length≤c0) (hr1 : Kd.C (Kd.int .i64) w A1 l1.length l1) (hc1 : l1.length≤c1) (h : r12_May.f k l0 l1 a2 a3=some r) :
  Calls Try.prog 95 #[.slice A0 l0.length c0, .slice A1 l1.length c1, .int .i64 a2, .int .i64 a3] w fun e w' => e=.returned (.bool r)∧Below w.heap.size w w' := by
 have HR0:=zm hr0;have HC0:=zm hc0;clear hr0 hc0;have HR1:=zm hr1;have HC1:=zm hc1;clear hr1 hc1;have HB:=zm (Below.refl w.heap.size w);have H:=h
 unfold r12_May.f at H
 clear h;have HC5:=zm H;clear H
 go_enter Try.func95,Try.ntmps95
 go_upto_region 1 with (fail)
 go_cut [32] (fun v32 wc => ∃ (kq : Nat) (ak : Bool),v32=.bool ak∧Aside0 (r12_May.j0 kq l1 a2 a3 ak=some r)∧Aside0 (kq≤k)∧Aside0 (Below w.heap.size w wc))
 case first =>
  have H:=HC5.out;clear HC5
  obtain ⟨c6,H⟩:=yif H
  have az : decide (0≤a2)=true:=decide_eq_true c6
  clear c6
  (first|rw [az]|(simp only [i64_w,i32_w];rw [az])|skip)
  obtain ⟨c7,H⟩:=yif H
  have aN : decide (a2 < (l0.length : Int))=true:=decide_eq_true c7
  clear c7
  by_cases c8 : (rd l0 a2) < 1
  ·
   rw [if_pos c8] at H
   have aH:=yD c8
   clear c8
   have H' := zm H
   clear H
   have ae : 0≤(a2 : Int):=yt
   have af : a2 < (l0.length : Int):=yt
   obtain ⟨ap,aj,aa⟩:=Kd.at_int HR0.out a2 ae af
   cases aj
   replace aa:=yhx HB aa
   replace ae:=eq_true ae
   replace af:=eq_true af
   go_wp2
   go_meet
   case rel=>exact ⟨_,(true),yq,H',⟨yo⟩,⟨yhb⟩⟩
  rw [if_neg c8] at H
  have aH:=yG c8
  clear c8
  obtain ⟨c9,H⟩:=yif H
  have aQ : decide (a2 < (l1.length : Int))=true:=decide_eq_true c9
  clear c9
  by_cases c10 : (rd l1 a2) ≥ 12
  ·
   rw [if_pos c10] at H
   have aA:=yDl c10
   clear c10
   have H' := zm H
   clear H
   have ae : 0≤(a2 : Int):=yt
   have af : a2 < (l0.length : Int):=yt
   obtain ⟨ap,aj,aa⟩:=Kd.at_int HR0.out a2 ae af
   cases aj
   replace aa:=yhx HB aa
   replace ae:=eq_true ae
   replace af:=eq_true af
   have ag : 0≤(a2 : Int):=yt
   have ah : a2 < (l1.length : Int):=yt
   obtain ⟨aq,au,ac⟩:=Kd.at_int HR1.out a2 ag ah
   cases au
   replace ac:=yhx HB ac
   replace ag:=eq_true ag
   replace ah:=eq_true ah
   go_wp2
   go_meet
   case rel=>exact ⟨_,(true),yq,H',⟨yo⟩,⟨yhb⟩⟩
  rw [if_neg c10] at H
  have aA:=yGl c10
  clear c10
  obtain ⟨ao,A11,H⟩:=ybi H
  by_cases c12 : ao=1
  ·
   rw [if_pos c12] at H
   obtain ⟨aC,aD⟩:=yE c12
   clear c12
   have H' := zm H
   clear H
   have ae : 0≤(a2 : Int):=yt
   have af : a2 < (l0.length : Int):=yt
   obtain ⟨ap,aj,aa⟩:=Kd.at_int HR0.out a2 ae af
   cases aj
   replace aa:=yhx HB aa
   replace ae:=eq_true ae
   replace af:=eq_true af
   have ag : 0≤(a2 : Int):=yt
   have ah : a2 < (l1.length : Int):=yt
   obtain ⟨aq,au,ac⟩:=Kd.at_int HR1.out a2 ag ah
   cases au
   replace ac:=yhx HB ac
   replace ag:=eq_true ag
   replace ah:=eq_true ah
   go_wp2_with (first|(go_at_call 46;(with_reducible refine (r10_Width.calls k a2 ao _ A11.out).mono ?_);rintro e w' ⟨rfl,⟨nd,rfl⟩⟩;have ax : 0≤(a2 : Int):=yt;have ay : a2 < (l1.length : Int):=yt;obtain ⟨aE,aI,al⟩:=Kd.at_int HR1.out a2 ax ay;obtain rfl : aq=aE:=(by injection aI);replace al:=yhx HB al;replace ax:=eq_true ax;replace ay:=eq_true ay))
   go_meet
   case rel=>exact ⟨_,(decide ((rd l1 a2) > 0)),yq,H',⟨yo⟩,⟨yhb⟩⟩
  rw [if_neg c12] at H
  obtain ⟨aC,aD⟩:=yF c12
  have H' := zm H
  clear H
  have ae : 0≤(a2 : Int):=yt
  have af : a2 < (l0.length : Int):=yt
  obtain ⟨ap,aj,aa⟩:=Kd.at_int HR0.out a2 ae af
  cases aj
  replace aa:=yhx HB aa
  replace ae:=eq_true ae
  replace af:=eq_true af
  have ag : 0≤(a2 : Int):=yt
  have ah : a2 < (l1.length : Int):=yt
  obtain ⟨aq,au,ac⟩:=Kd.at_int HR1.out a2 ag ah
  cases au
  replace ac:=yhx HB ac
  replace ag:=eq_true ag
  replace ah:=eq_true ah
  go_wp2_with (first|(go_at_call 46;(with_reducible refine (r10_Width.calls k a2 ao _ A11.out).mono ?_);rintro e w' ⟨rfl,⟨nd,rfl⟩⟩))
  go_meet
  case rel=>exact ⟨_,(false),yq,H',⟨yo⟩,⟨yhb⟩⟩
 case rest =>
  clear HC5
  try clear c1
  obtain ⟨kq,ak,rfl,HA,HJ4,HB⟩:=hcut
  obtain ⟨kj4,rfl⟩:=ysu kq (fun h=>by subst h;exact absurd HA.out (by simp [r12_May.j0]))
  have H:=HA.out;clear HA
  simp only [r12_May.j0] at H
  by_cases c13 : ak=true
  ·
   subst c13
   rw [if_pos rfl] at H
   obtain rfl:=Option.some.inj H
   go_wp2
   go_ret
   exact ⟨ye,yhb⟩
  replace c13:=Bool.eq_false_iff.mpr c13
  subst c13
  rw [ynf] at H
  obtain ⟨am,A14,H⟩:=ybi H
  obtain ⟨aw,A15,H⟩:=ybi H
  obtain rfl:=Option.some.inj H
  go_wp2_with (first|((with_reducible refine gate_callee (f:=96) rfl ?_);refine ygl 35 Try.func96 #[.slice A1 l1.length c1, .int .i64 a2] ?_;(with_reducible refine (r12_More.calls _ _ l1 a2 am _ ?av HC1.out A14.out).mono ?_);(case av=>exact ycb HR1);rintro e w16 ⟨aT,rfl,ho0,hb⟩;refine ⟨_,rfl, ?_⟩;have ai:=zm (Kd.R_lower ho0 (zE yhb));replace HB:=ybs hb;(try clear hb);(try clear ho0);obtain ⟨aJ,aK,aM⟩:=Kd.R_slice ai.out;subst aM)|((with_reducible refine gate_callee (f:=99) rfl ?_);refine ygl 36 Try.func99 #[.slice aJ am.length aK] ?_;(with_reducible refine (r12_Spent.calls kj4 _ _ am aw _ ?av ?aG A15.out).mono ?_);(case av=>exact yce (Kd.R_reads' ai.out).2.2);(case aG=>exact (Kd.R_reads' ai.out).2.1);rintro e w18 ⟨rfl,hb⟩;refine ⟨_,rfl, ?_⟩;replace ai:=yRb ai hb;replace HB:=ybs hb;(try clear hb)))
  go_ret
  exact ⟨ye,yhb⟩
mutual
def r12_Channel.l0 : Nat→List Int→Int→List Int→Option (List Int)
 | 0,_,_,_=>none
 | k+1,x0,x1,x5=>r12_Channel.l1 k x0 x1 x5 (-1) 0 0
def r12_Channel.l1 : Nat→List Int→Int→List Int→Int→Int→Int→Option (List Int)
 | 0,_,_,_,_,_,_=>none
 | k+1,x0,x1,x5,x6,x7,x8=>if x8 < 5 then (if 0≤x8 then (if x8 < (x0.length : Int) then (if x8 < (x5.length : Int) then ((r10_Width.f k x8).bind fun aj=>(if aj=0 then (none) else ((r12_May.f k x0 x5 x8 x1).bind fun aH=>(if aH=true then (if x6 < 0 then (r12_Channel.l1 k x0 x1 x5 x8 (wrap64 ((wrap64 (8 * (rd x0 x8))) - (wrap64 (Int.tdiv (wrap64 (16 * (rd x5 x8))) aj)))) (wrap64 (x8+1))) else (if (wrap64 ((wrap64 (8 * (rd x0 x8))) - (wrap64 (Int.tdiv (wrap64 (16 * (rd x5 x8))) aj)))) > x7 then (r12_Channel.l1 k x0 x1 x5 x8 (wrap64 ((wrap64 (8 * (rd x0 x8))) - (wrap64 (Int.tdiv (wrap64 (16 * (rd x5 x8))) aj)))) (wrap64 (x8+1))) else (r12_Channel.l1 k x0 x1 x5 x6 x7 (wrap64 (x8+1))))) else (r12_Channel.l1 k x0 x1 x5 x6 x7 (wrap64 (x8+1))))))) else (none)) else (none)) else (none)) else (if x6 < 0 then (some x5) else ((r12_More.f x5 x6).bind fun ay=>(r12_Channel.l0 k x0 x1 ay)))
end
def r12_Channel.f (k : Nat) (l0 : List Int) (a1 : Int) : Option (List Int):=r12_Channel.l0 k l0 a1 (([0,0,0,0,0] : List Int))
theorem r12_Channel.mono_l : ∀ k,(∀ y0 y1 y2,LeO (r12_Channel.l0 k y0 y1 y2) (r12_Channel.l0 (k+1) y0 y1 y2))∧(∀ y0 y1 y2 y3 y4 y5,LeO (r12_Channel.l1 k y0 y1 y2 y3 y4 y5) (r12_Channel.l1 (k+1) y0 y1 y2 y3 y4 y5))
 | 0=>⟨fun _ _ _ r h=>by simp [r12_Channel.l0] at h,fun _ _ _ _ _ _ r h=>by simp [r12_Channel.l1] at h⟩
 | k+1=>by
  obtain ⟨ih0,ih1⟩:=r12_Channel.mono_l k
  refine ⟨?_, ?_⟩
  ·
   intro y0 y1 y2
   unfold r12_Channel.l0
   repeat' with_reducible first|apply ih0|apply ih1|apply r10_Width.mono|apply r12_May.mono|apply yLr|apply yLn|apply yLi|apply yLb|intro _
  intro y0 y1 y2 y3 y4 y5
  unfold r12_Channel.l1
  repeat' with_reducible first|apply ih0|apply ih1|apply r10_Width.mono|apply r12_May.mono|apply yLr|apply yLn|apply yLi|apply yLb|intro _
theorem r12_Channel.mono : ∀ a0 a1 k,LeO (r12_Channel.f k a0 a1) (r12_Channel.f (k+1) a0 a1):=by
 intro a0 a1 k
 obtain ⟨ih0,ih1⟩:=r12_Channel.mono_l k
 unfold r12_Channel.f
 repeat' with_reducible first|apply ih0|apply ih1|apply r10_Width.mono|apply r12_May.mono|apply yLr|apply yLn|apply yLi|apply yLb|intro _
set_option maxHeartbeats 8000000 in
set_option maxRecDepth 100000 in
theorem r12_Channel.calls (k : Nat) (A0 : Option Addr) (c0 : Nat) (l0 : List Int) (a1 : Int) (r : List Int) (w : World) (hr0 : Kd.C (Kd.int .i64) w A0 l0.length l0) (hc0 : l0.length≤c0) (h : r12_Channel.f k l0 a1=some r) :
  Calls Try.prog 83 #[.slice A0 l0.length c0, .int .i64 a1] w fun e w' => ∃ v0_ : Value,e=.returned (v0_)∧Kd.R (Kd.int .i64) 3 w' w.heap.size (fun _=>True) v0_ r∧Below w.heap.size w w' := by
 have HR0:=zm hr0;have HC0:=zm hc0;clear hr0 hc0;have HB:=zm (Below.refl w.heap.size w);have H:=h
 unfold r12_Channel.f at H
 clear h
 obtain ⟨aI,aA⟩ : ∃ y_ : List Int,y_=(([0,0,0,0,0] : List Int)):=⟨_,rfl⟩
 replace H : (r12_Channel.l0 k l0 a1 aI)=some r:=yrw aA H
 have aq:=zm aA;clear aA
 have H' := zm H
 clear H
 go_enter Try.func83,Try.ntmps83
 go_wp2_with (first|((with_reducible refine gate_dst (N:=10) rfl ?_);refine Kd.R_lit (Kd.int .i64) _ 3 ?hg (N:=10) ?hd (xs:=([0,0,0,0,0] : List Int)) (inner := [.int .i64 0, .int .i64 0, .int .i64 0, .int .i64 0, .int .i64 0]) (ok:=fun _=>True) (okp:=fun _=>True) ?hr ?hp (fun _ hk=>hk) trivial (Below.refl _ _) (Nat.le_refl _) (by simp) ?_;(case hd=>rfl);(case hg=>rfl);(case hr=>first|(go_simp;done)|(go_simp;rfl));(case hp=>exact (Reps.one (show Kd.M (Kd.int .i64) _ _ _ 0 [.int .i64 0] from rfl) (Reps.one (show Kd.M (Kd.int .i64) _ _ _ 0 [.int .i64 0] from rfl) (Reps.one (show Kd.M (Kd.int .i64) _ _ _ 0 [.int .i64 0] from rfl) (Reps.one (show Kd.M (Kd.int .i64) _ _ _ 0 [.int .i64 0] from rfl) (Reps.one (show Kd.M (Kd.int .i64) _ _ _ 0 [.int .i64 0] from rfl) (Reps.none _ _)))))));intro aJ w3 ho4 hb hg_ hnew_;clear hg_ hnew_;(first|rw [← aq.out] at ho4|(simp only [Int.reduceToNat] at ho4;rw [← aq.out] at ho4));have aC:=zm (Kd.R_lower ho4 (zE yhb));replace HB:=ybs hb;clear hb ho4))
 repeat (go_quiet (first|((with_reducible refine gate_dst (N:=10) rfl ?_);refine Kd.R_lit (Kd.int .i64) _ 3 ?hg (N:=10) ?hd (xs:=([0,0,0,0,0] : List Int)) (inner := [.int .i64 0, .int .i64 0, .int .i64 0, .int .i64 0, .int .i64 0]) (ok:=fun _=>True) (okp:=fun _=>True) ?hr ?hp (fun _ hk=>hk) trivial (Below.refl _ _) (Nat.le_refl _) (by simp) ?_;(case hd=>rfl);(case hg=>rfl);(case hr=>first|(go_simp;done)|(go_simp;rfl));(case hp=>exact (Reps.one (show Kd.M (Kd.int .i64) _ _ _ 0 [.int .i64 0] from rfl) (Reps.one (show Kd.M (Kd.int .i64) _ _ _ 0 [.int .i64 0] from rfl) (Reps.one (show Kd.M (Kd.int .i64) _ _ _ 0 [.int .i64 0] from rfl) (Reps.one (show Kd.M (Kd.int .i64) _ _ _ 0 [.int .i64 0] from rfl) (Reps.one (show Kd.M (Kd.int .i64) _ _ _ 0 [.int .i64 0] from rfl) (Reps.none _ _)))))));intro aJ w3 ho4 hb hg_ hnew_;clear hg_ hnew_;(first|rw [← aq.out] at ho4|(simp only [Int.reduceToNat] at ho4;rw [← aq.out] at ho4));have aC:=zm (Kd.R_lower ho4 (zE yhb));replace HB:=ybs hb;clear hb ho4));try go_wp2_with (first|((with_reducible refine gate_dst (N:=10) rfl ?_);refine Kd.R_lit (Kd.int .i64) _ 3 ?hg (N:=10) ?hd (xs:=([0,0,0,0,0] : List Int)) (inner := [.int .i64 0, .int .i64 0, .int .i64 0, .int .i64 0, .int .i64 0]) (ok:=fun _=>True) (okp:=fun _=>True) ?hr ?hp (fun _ hk=>hk) trivial (Below.refl _ _) (Nat.le_refl _) (by simp) ?_;(case hd=>rfl);(case hg=>rfl);(case hr=>first|(go_simp;done)|(go_simp;rfl));(case hp=>exact (Reps.one (show Kd.M (Kd.int .i64) _ _ _ 0 [.int .i64 0] from rfl) (Reps.one (show Kd.M (Kd.int .i64) _ _ _ 0 [.int .i64 0] from rfl) (Reps.one (show Kd.M (Kd.int .i64) _ _ _ 0 [.int .i64 0] from rfl) (Reps.one (show Kd.M (Kd.int .i64) _ _ _ 0 [.int .i64 0] from rfl) (Reps.one (show Kd.M (Kd.int .i64) _ _ _ 0 [.int .i64 0] from rfl) (Reps.none _ _)))))));intro aJ w3 ho4 hb hg_ hnew_;clear hg_ hnew_;(first|rw [← aq.out] at ho4|(simp only [Int.reduceToNat] at ho4;rw [← aq.out] at ho4));have aC:=zm (Kd.R_lower ho4 (zE yhb));replace HB:=ybs hb;clear hb ho4)))
 go_loopg [5] k (fun kq v5 w' => ∃ (ai : List Int),Aside0 (r12_Channel.l0 kq l0 a1 ai=some r)∧Aside0 (kq≤k)∧Aside0 (Kd.R (Kd.int .i64) 3 w' w.heap.size (fun _=>True) v5 ai)∧Aside0 (Below w.heap.size w w'))
 case atStart=>exact ⟨(aI),H',⟨Nat.le_refl _⟩,⟨yr aC⟩,⟨yhb⟩⟩
 case round =>
  clear H'
  obtain ⟨ai,HA,HK1,aa,HB⟩:=hrel
  obtain ⟨k1,rfl⟩:=ysu gk (fun h=>by subst h;exact absurd HA.out (by simp [r12_Channel.l0]))
  have H:=HA.out;clear HA
  simp only [r12_Channel.l0] at H
  have H' := zm H
  clear H
  go_wp2
  repeat (go_quiet (fail);try go_wp2)
  go_loopg [6,7,8] k1 (fun kq v6 v7 v8 w' => ∃ (ap : Int) (az : Int) (ac : Int),v6=.int .i64 ap∧v7=.int .i64 az∧v8=.int .i64 ac∧Aside0 (r12_Channel.l1 kq l0 a1 ai ap az ac=some r)∧Aside0 (kq≤k1)∧Aside0 (Kd.R (Kd.int .i64) 3 w' w.heap.size (fun _=>True) u5 ai)∧Aside0 (Below w.heap.size w w'))
  case atStart=>exact ⟨((-1)),(0),(0),yq,yq,yq,H',⟨Nat.le_refl _⟩,⟨yr aa⟩,⟨yhb⟩⟩
  case round =>
   clear H'
   obtain ⟨ap,az,ac,rfl,rfl,rfl,HA,HK2,aa,HB⟩:=hrel
   obtain ⟨k2,rfl⟩:=ysu gk (fun h=>by subst h;exact absurd HA.out (by simp [r12_Channel.l1]))
   have H:=HA.out;clear HA
   simp only [r12_Channel.l1] at H
   by_cases c5 : ac < 5
   ·
    rw [if_pos c5] at H
    have aT:=yD c5
    clear c5
    obtain ⟨c6,H⟩:=yif H
    have a8 : decide (0≤ac)=true:=decide_eq_true c6
    clear c6
    obtain ⟨c7,H⟩:=yif H
    have a9 : decide (ac < (l0.length : Int))=true:=decide_eq_true c7
    clear c7
    obtain ⟨c8,H⟩:=yif H
    have ba : decide (ac < (ai.length : Int))=true:=decide_eq_true c8
    clear c8
    obtain ⟨aj,A9,H⟩:=ybi H
    obtain ⟨c10,H⟩:=yie H
    obtain ⟨aZ,a7⟩:=yF c10
    obtain ⟨aH,A11,H⟩:=ybi H
    by_cases c12 : aH=true
    ·
     subst c12
     rw [if_pos rfl] at H
     by_cases c13 : ap < 0
     ·
      rw [if_pos c13] at H
      have aK:=yD c13
      clear c13
      have H' := zm H
      clear H
      have ak : 0≤(ac : Int):=yt
      have al : ac < (l0.length : Int):=yt
      obtain ⟨aD,aw,ah⟩:=Kd.at_int HR0.out ac ak al
      cases aw
      replace ah:=yhx HB ah
      replace ak:=eq_true ak
      replace al:=eq_true al
      obtain ⟨bb,bc,aU⟩:=Kd.R_slice aa.out
      subst aU
      have am : 0≤(ac : Int):=yt
      have ao : ac < (ai.length : Int):=yt
      obtain ⟨aE,ax,au⟩:=Kd.at_int (Kd.R_reads' aa.out).2.2 ac am ao
      cases ax
      replace am:=eq_true am
      replace ao:=eq_true ao
      go_wp2_with (first|(go_at_call 46;(with_reducible refine (r10_Width.calls k2 ac aj _ A9.out).mono ?_);rintro e w' ⟨rfl,⟨nd,rfl⟩⟩;(try exact yww))|(go_at_call 95;(with_reducible refine (r12_May.calls k2 _ _ l0 _ _ ai ac a1 true _ ?ae HC0.out ?af ?ag A11.out).mono ?_);(case ae=>exact ycb HR0);(case af=>exact yce (Kd.R_reads' aa.out).2.2);(case ag=>exact (Kd.R_reads' aa.out).2.1);rintro e w15 ⟨rfl,hb⟩;replace aa:=yRb aa hb;replace HB:=ybs hb;(try clear hb)))
      repeat (go_quiet (first|(go_at_call 46;(with_reducible refine (r10_Width.calls k2 ac aj _ A9.out).mono ?_);rintro e w' ⟨rfl,⟨nd,rfl⟩⟩;(try exact yww))|(go_at_call 95;(with_reducible refine (r12_May.calls k2 _ _ l0 _ _ ai ac a1 true _ ?ae HC0.out ?af ?ag A11.out).mono ?_);(case ae=>exact ycb HR0);(case af=>exact yce (Kd.R_reads' aa.out).2.2);(case ag=>exact (Kd.R_reads' aa.out).2.1);rintro e w15 ⟨rfl,hb⟩;replace aa:=yRb aa hb;replace HB:=ybs hb;(try clear hb)));try go_wp2_with (first|(go_at_call 46;(with_reducible refine (r10_Width.calls k2 ac aj _ A9.out).mono ?_);rintro e w' ⟨rfl,⟨nd,rfl⟩⟩;(try exact yww))|(go_at_call 95;(with_reducible refine (r12_May.calls k2 _ _ l0 _ _ ai ac a1 true _ ?ae HC0.out ?af ?ag A11.out).mono ?_);(case ae=>exact ycb HR0);(case af=>exact yce (Kd.R_reads' aa.out).2.2);(case ag=>exact (Kd.R_reads' aa.out).2.1);rintro e w15 ⟨rfl,hb⟩;replace aa:=yRb aa hb;replace HB:=ybs hb;(try clear hb))))
      go_roundg k2
      case measure=>exact yom2 HK1 HK2
      case rel=>exact ⟨(ac),(wrap64 ((wrap64 (8 * (rd l0 ac))) - (wrap64 (Int.tdiv (wrap64 (16 * (rd ai ac))) aj)))),(wrap64 (ac+1)),yq,yq,yq,H',⟨yom2 HK1 HK2⟩,⟨yr aa⟩,⟨yhb⟩⟩
     rw [if_neg c13] at H
     have aK:=yG c13
     clear c13
     by_cases c16 : (wrap64 ((wrap64 (8 * (rd l0 ac))) - (wrap64 (Int.tdiv (wrap64 (16 * (rd ai ac))) aj)))) > az
     ·
      rw [if_pos c16] at H
      have aM:=yDs c16
      clear c16
      have H' := zm H
      clear H
      have ak : 0≤(ac : Int):=yt
      have al : ac < (l0.length : Int):=yt
      obtain ⟨aD,aw,ah⟩:=Kd.at_int HR0.out ac ak al
      cases aw
      replace ah:=yhx HB ah
      replace ak:=eq_true ak
      replace al:=eq_true al
      obtain ⟨bd,bf,aV⟩:=Kd.R_slice aa.out
      subst aV
      have am : 0≤(ac : Int):=yt
      have ao : ac < (ai.length : Int):=yt
      obtain ⟨aE,ax,au⟩:=Kd.at_int (Kd.R_reads' aa.out).2.2 ac am ao
      cases ax
      replace am:=eq_true am
      replace ao:=eq_true ao
      go_wp2_with (first|(go_at_call 46;(with_reducible refine (r10_Width.calls k2 ac aj _ A9.out).mono ?_);rintro e w' ⟨rfl,⟨nd,rfl⟩⟩;(try exact yww))|(go_at_call 95;(with_reducible refine (r12_May.calls k2 _ _ l0 _ _ ai ac a1 true _ ?ae HC0.out ?af ?ag A11.out).mono ?_);(case ae=>exact ycb HR0);(case af=>exact yce (Kd.R_reads' aa.out).2.2);(case ag=>exact (Kd.R_reads' aa.out).2.1);rintro e w18 ⟨rfl,hb⟩;replace aa:=yRb aa hb;replace HB:=ybs hb;(try clear hb)))
      repeat (go_quiet (first|(go_at_call 46;(with_reducible refine (r10_Width.calls k2 ac aj _ A9.out).mono ?_);rintro e w' ⟨rfl,⟨nd,rfl⟩⟩;(try exact yww))|(go_at_call 95;(with_reducible refine (r12_May.calls k2 _ _ l0 _ _ ai ac a1 true _ ?ae HC0.out ?af ?ag A11.out).mono ?_);(case ae=>exact ycb HR0);(case af=>exact yce (Kd.R_reads' aa.out).2.2);(case ag=>exact (Kd.R_reads' aa.out).2.1);rintro e w18 ⟨rfl,hb⟩;replace aa:=yRb aa hb;replace HB:=ybs hb;(try clear hb)));try go_wp2_with (first|(go_at_call 46;(with_reducible refine (r10_Width.calls k2 ac aj _ A9.out).mono ?_);rintro e w' ⟨rfl,⟨nd,rfl⟩⟩;(try exact yww))|(go_at_call 95;(with_reducible refine (r12_May.calls k2 _ _ l0 _ _ ai ac a1 true _ ?ae HC0.out ?af ?ag A11.out).mono ?_);(case ae=>exact ycb HR0);(case af=>exact yce (Kd.R_reads' aa.out).2.2);(case ag=>exact (Kd.R_reads' aa.out).2.1);rintro e w18 ⟨rfl,hb⟩;replace aa:=yRb aa hb;replace HB:=ybs hb;(try clear hb))))
      go_roundg k2
      case measure=>exact yom2 HK1 HK2
      case rel=>exact ⟨(ac),(wrap64 ((wrap64 (8 * (rd l0 ac))) - (wrap64 (Int.tdiv (wrap64 (16 * (rd ai ac))) aj)))),(wrap64 (ac+1)),yq,yq,yq,H',⟨yom2 HK1 HK2⟩,⟨yr aa⟩,⟨yhb⟩⟩
     rw [if_neg c16] at H
     have aM:=yGs c16
     clear c16
     have H' := zm H
     clear H
     have ak : 0≤(ac : Int):=yt
     have al : ac < (l0.length : Int):=yt
     obtain ⟨aD,aw,ah⟩:=Kd.at_int HR0.out ac ak al
     cases aw
     replace ah:=yhx HB ah
     replace ak:=eq_true ak
     replace al:=eq_true al
     obtain ⟨bg,bh,aW⟩:=Kd.R_slice aa.out
     subst aW
     have am : 0≤(ac : Int):=yt
     have ao : ac < (ai.length : Int):=yt
     obtain ⟨aE,ax,au⟩:=Kd.at_int (Kd.R_reads' aa.out).2.2 ac am ao
     cases ax
     replace am:=eq_true am
     replace ao:=eq_true ao
     go_wp2_with (first|(go_at_call 46;(with_reducible refine (r10_Width.calls k2 ac aj _ A9.out).mono ?_);rintro e w' ⟨rfl,⟨nd,rfl⟩⟩;(try exact yww))|(go_at_call 95;(with_reducible refine (r12_May.calls k2 _ _ l0 _ _ ai ac a1 true _ ?ae HC0.out ?af ?ag A11.out).mono ?_);(case ae=>exact ycb HR0);(case af=>exact yce (Kd.R_reads' aa.out).2.2);(case ag=>exact (Kd.R_reads' aa.out).2.1);rintro e w20 ⟨rfl,hb⟩;replace aa:=yRb aa hb;replace HB:=ybs hb;(try clear hb)))
     repeat (go_quiet (first|(go_at_call 46;(with_reducible refine (r10_Width.calls k2 ac aj _ A9.out).mono ?_);rintro e w' ⟨rfl,⟨nd,rfl⟩⟩;(try exact yww))|(go_at_call 95;(with_reducible refine (r12_May.calls k2 _ _ l0 _ _ ai ac a1 true _ ?ae HC0.out ?af ?ag A11.out).mono ?_);(case ae=>exact ycb HR0);(case af=>exact yce (Kd.R_reads' aa.out).2.2);(case ag=>exact (Kd.R_reads' aa.out).2.1);rintro e w20 ⟨rfl,hb⟩;replace aa:=yRb aa hb;replace HB:=ybs hb;(try clear hb)));try go_wp2_with (first|(go_at_call 46;(with_reducible refine (r10_Width.calls k2 ac aj _ A9.out).mono ?_);rintro e w' ⟨rfl,⟨nd,rfl⟩⟩;(try exact yww))|(go_at_call 95;(with_reducible refine (r12_May.calls k2 _ _ l0 _ _ ai ac a1 true _ ?ae HC0.out ?af ?ag A11.out).mono ?_);(case ae=>exact ycb HR0);(case af=>exact yce (Kd.R_reads' aa.out).2.2);(case ag=>exact (Kd.R_reads' aa.out).2.1);rintro e w20 ⟨rfl,hb⟩;replace aa:=yRb aa hb;replace HB:=ybs hb;(try clear hb))))
     go_roundg k2
     case measure=>exact yom2 HK1 HK2
     case rel=>exact ⟨(ap),(az),(wrap64 (ac+1)),yq,yq,yq,H',⟨yom2 HK1 HK2⟩,⟨yr aa⟩,⟨yhb⟩⟩
    replace c12:=Bool.eq_false_iff.mpr c12
    subst c12
    rw [ynf] at H
    have H' := zm H
    clear H
    have ak : 0≤(ac : Int):=yt
    have al : ac < (l0.length : Int):=yt
    obtain ⟨aD,aw,ah⟩:=Kd.at_int HR0.out ac ak al
    cases aw
    replace ah:=yhx HB ah
    replace ak:=eq_true ak
    replace al:=eq_true al
    obtain ⟨bi,bj,aX⟩:=Kd.R_slice aa.out
    subst aX
    have am : 0≤(ac : Int):=yt
    have ao : ac < (ai.length : Int):=yt
    obtain ⟨aE,ax,au⟩:=Kd.at_int (Kd.R_reads' aa.out).2.2 ac am ao
    cases ax
    replace am:=eq_true am
    replace ao:=eq_true ao
    go_wp2_with (first|(go_at_call 46;(with_reducible refine (r10_Width.calls k2 ac aj _ A9.out).mono ?_);rintro e w' ⟨rfl,⟨nd,rfl⟩⟩;(try exact yww))|(go_at_call 95;(with_reducible refine (r12_May.calls k2 _ _ l0 _ _ ai ac a1 false _ ?ae HC0.out ?af ?ag A11.out).mono ?_);(case ae=>exact ycb HR0);(case af=>exact yce (Kd.R_reads' aa.out).2.2);(case ag=>exact (Kd.R_reads' aa.out).2.1);rintro e w22 ⟨rfl,hb⟩;replace aa:=yRb aa hb;replace HB:=ybs hb;(try clear hb)))
    repeat (go_quiet (first|(go_at_call 46;(with_reducible refine (r10_Width.calls k2 ac aj _ A9.out).mono ?_);rintro e w' ⟨rfl,⟨nd,rfl⟩⟩;(try exact yww))|(go_at_call 95;(with_reducible refine (r12_May.calls k2 _ _ l0 _ _ ai ac a1 false _ ?ae HC0.out ?af ?ag A11.out).mono ?_);(case ae=>exact ycb HR0);(case af=>exact yce (Kd.R_reads' aa.out).2.2);(case ag=>exact (Kd.R_reads' aa.out).2.1);rintro e w22 ⟨rfl,hb⟩;replace aa:=yRb aa hb;replace HB:=ybs hb;(try clear hb)));try go_wp2_with (first|(go_at_call 46;(with_reducible refine (r10_Width.calls k2 ac aj _ A9.out).mono ?_);rintro e w' ⟨rfl,⟨nd,rfl⟩⟩;(try exact yww))|(go_at_call 95;(with_reducible refine (r12_May.calls k2 _ _ l0 _ _ ai ac a1 false _ ?ae HC0.out ?af ?ag A11.out).mono ?_);(case ae=>exact ycb HR0);(case af=>exact yce (Kd.R_reads' aa.out).2.2);(case ag=>exact (Kd.R_reads' aa.out).2.1);rintro e w22 ⟨rfl,hb⟩;replace aa:=yRb aa hb;replace HB:=ybs hb;(try clear hb))))
    go_roundg k2
    case measure=>exact yom2 HK1 HK2
    case rel=>exact ⟨(ap),(az),(wrap64 (ac+1)),yq,yq,yq,H',⟨yom2 HK1 HK2⟩,⟨yr aa⟩,⟨yhb⟩⟩
   rw [if_neg c5] at H
   have aT:=yG c5
   clear c5
   by_cases c23 : ap < 0
   ·
    rw [if_pos c23] at H
    have aN:=yD c23
    clear c23
    obtain rfl:=Option.some.inj H
    go_wp2
    repeat (go_quiet (fail);try go_wp2)
    go_ret
    exact ⟨_,ye,yr aa,yhb⟩
   rw [if_neg c23] at H
   have aN:=yG c23
   clear c23
   obtain ⟨ay,A24,H⟩:=ybi H
   have H' := zm H
   clear H
   obtain ⟨bk,bl,aY⟩:=Kd.R_slice aa.out
   subst aY
   go_wp2_with (first|(go_at_call 96;(with_reducible refine (r12_More.calls _ _ ai ap ay _ ?ae ?av A24.out).mono ?_);(case ae=>exact yce (Kd.R_reads' aa.out).2.2);(case av=>exact (Kd.R_reads' aa.out).2.1);rintro e w26 ⟨aQ,rfl,ho0,hb⟩;have aG:=zm (Kd.R_lower (Kd.R_new' ho0 (Kd.R_lt (yr aa))) (zE yhb));replace aa:=zm (Kd.R_elder' (yr aa) (Kd.R_base ho0) hb);replace HB:=ybs hb;(try clear hb);(try clear ho0)))
   repeat (go_quiet (first|(go_at_call 96;(with_reducible refine (r12_More.calls _ _ ai ap ay _ ?ae ?av A24.out).mono ?_);(case ae=>exact yce (Kd.R_reads' aa.out).2.2);(case av=>exact (Kd.R_reads' aa.out).2.1);rintro e w26 ⟨aQ,rfl,ho0,hb⟩;have aG:=zm (Kd.R_lower (Kd.R_new' ho0 (Kd.R_lt (yr aa))) (zE yhb));replace aa:=zm (Kd.R_elder' (yr aa) (Kd.R_base ho0) hb);replace HB:=ybs hb;(try clear hb);(try clear ho0)));try go_wp2_with (first|(go_at_call 96;(with_reducible refine (r12_More.calls _ _ ai ap ay _ ?ae ?av A24.out).mono ?_);(case ae=>exact yce (Kd.R_reads' aa.out).2.2);(case av=>exact (Kd.R_reads' aa.out).2.1);rintro e w26 ⟨aQ,rfl,ho0,hb⟩;have aG:=zm (Kd.R_lower (Kd.R_new' ho0 (Kd.R_lt (yr aa))) (zE yhb));replace aa:=zm (Kd.R_elder' (yr aa) (Kd.R_base ho0) hb);replace HB:=ybs hb;(try clear hb);(try clear ho0))))
   go_roundg k2
   case measure=>exact yom2 HK1 HK2
   case rel=>exact ⟨(ay),H',⟨yom2 HK1 HK2⟩,⟨yR0 aG⟩,⟨yhb⟩⟩
def r11_Right.l0 : Nat→List Int→Bool→Int→Option (Bool)
 | 0,_,_,_=>none
 | k+1,x0,x3,x4=>if x4 < (x0.length : Int) then (if x3=true then (if 0≤x4 then (if (rd x0 x4) ≥ 0 then (r11_Right.l0 k x0 (decide ((rd x0 x4)≤44)) (wrap64 (x4+1))) else (r11_Right.l0 k x0 false (wrap64 (x4+1)))) else (none)) else (r11_Right.l0 k x0 false (wrap64 (x4+1)))) else (some x3)
def r11_Right.f (k : Nat) (l0 : List Int) : Option (Bool):=r11_Right.l0 k l0 ((l0.length : Int) == 5) 0
theorem r11_Right.mono_l : ∀ k,(∀ y0 y1 y2,LeO (r11_Right.l0 k y0 y1 y2) (r11_Right.l0 (k+1) y0 y1 y2))
 | 0=>fun _ _ _ r h=>by simp [r11_Right.l0] at h
 | k+1=>by
  have ih0:=r11_Right.mono_l k
  ·
   intro y0 y1 y2
   unfold r11_Right.l0
   repeat' with_reducible first|apply ih0|apply yLr|apply yLn|apply yLi|apply yLb|intro _
theorem r11_Right.mono : ∀ a0 k,LeO (r11_Right.f k a0) (r11_Right.f (k+1) a0):=by
 intro a0 k
 have ih0:=r11_Right.mono_l k
 unfold r11_Right.f
 repeat' with_reducible first|apply ih0|apply yLr|apply yLn|apply yLi|apply yLb|intro _
set_option maxHeartbeats 8000000 in
set_option maxRecDepth 100000 in
theorem r11_Right.calls (k : Nat) (A0 : Option Addr) (c0 : Nat) (l0 : List Int) (r : Bool) (w : World) (hr0 : Kd.C (Kd.int .i64) w A0 l0.length l0) (hc0 : l0.length≤c0) (h : r11_Right.f k l0=some r) :
  Calls Try.prog 47 #[.slice A0 l0.length c0] w fun e w' => e=.returned (.bool r)∧Drawn0 w w' := by
 have HR0:=zm hr0;have HC0:=zm hc0;clear hr0 hc0;have H:=h
 unfold r11_Right.f at H
 clear h
 have H' := zm H
 clear H
 go_enter Try.func47,Try.ntmps47
 go_wp2
 go_loopg [3,4] k (fun kq v3 v4 w' => ∃ (ac : Bool) (aa : Int),v3=.bool ac∧v4=.int .i64 aa∧Aside0 (r11_Right.l0 kq l0 ac aa=some r)∧Aside0 (kq≤k)∧Drawn0 w w')
 case atStart=>exact ⟨(((l0.length : Int) == 5)),(0),yq,yq,H',⟨Nat.le_refl _⟩,yd⟩
 case round =>
  clear H'
  obtain ⟨ac,aa,rfl,rfl,HA,HK1,⟨m1,rfl⟩⟩:=hrel
  obtain ⟨k1,rfl⟩:=ysu gk (fun h=>by subst h;exact absurd HA.out (by simp [r11_Right.l0]))
  have H:=HA.out;clear HA
  simp only [r11_Right.l0] at H
  by_cases c2 : aa < (l0.length : Int)
  ·
   rw [if_pos c2] at H
   have al:=yD c2
   clear c2
   by_cases c3 : ac=true
   ·
    subst c3
    rw [if_pos rfl] at H
    obtain ⟨c4,H⟩:=yif H
    have au : decide (0≤aa)=true:=decide_eq_true c4
    clear c4
    by_cases c5 : (rd l0 aa) ≥ 0
    ·
     rw [if_pos c5] at H
     have am:=yDl c5
     clear c5
     have H' := zm H
     clear H
     obtain ⟨af,ag,ae,ao,ap⟩:=yai HR0 aa
     cases ag
     have ah : 0≤(aa : Int):=yt
     have ai : aa < (l0.length : Int):=yt
     obtain ⟨aj,aq,ak⟩:=Kd.at_int HR0.out aa ah ai
     obtain rfl : af=aj:=(by injection aq)
     replace ah:=eq_true ah
     replace ai:=eq_true ai
     go_wp2
     go_roundg k1
     case measure=>exact yom1 HK1
     case rel=>exact ⟨(decide ((rd l0 aa)≤44)),(wrap64 (aa+1)),yq,yq,H',⟨yom1 HK1⟩,yd⟩
    rw [if_neg c5] at H
    have am:=yGl c5
    clear c5
    have H' := zm H
    clear H
    obtain ⟨af,ag,ae,ao,ap⟩:=yai HR0 aa
    cases ag
    go_wp2
    go_roundg k1
    case measure=>exact yom1 HK1
    case rel=>exact ⟨(false),(wrap64 (aa+1)),yq,yq,H',⟨yom1 HK1⟩,yd⟩
   replace c3:=Bool.eq_false_iff.mpr c3
   subst c3
   rw [ynf] at H
   have H' := zm H
   clear H
   go_wp2
   go_roundg k1
   case measure=>exact yom1 HK1
   case rel=>exact ⟨(false),(wrap64 (aa+1)),yq,yq,H',⟨yom1 HK1⟩,yd⟩
  rw [if_neg c2] at H
  have al:=yG c2
  clear c2
  obtain rfl:=Option.some.inj H
  go_wp2
  go_ret
  exact ⟨yq,yd⟩
def r12_Fair.l0 : Nat→List (List Int)→Int→Option (Bool)
 | 0,_,_=>none
 | k+1,x1,x5=>if x5 < (x1.length : Int) then (if 0≤x5 then ((r11_Right.f k (rd_L1 x1 x5)).bind fun ao=>(if ao=true then (r12_Fair.l0 k x1 (wrap64 (x5+1))) else (some false))) else (none)) else (some true)
def r12_Fair.f (k : Nat) (a0 : Int) (l1 : List (List Int)) : Option (Bool):=if (l1.length : Int)=a0 then (r12_Fair.l0 k l1 0) else (some false)
theorem r12_Fair.mono_l : ∀ k,(∀ y0 y1,LeO (r12_Fair.l0 k y0 y1) (r12_Fair.l0 (k+1) y0 y1))
 | 0=>fun _ _ r h=>by simp [r12_Fair.l0] at h
 | k+1=>by
  have ih0:=r12_Fair.mono_l k
  ·
   intro y0 y1
   unfold r12_Fair.l0
   repeat' with_reducible first|apply ih0|apply r11_Right.mono|apply yLr|apply yLn|apply yLi|apply yLb|intro _
theorem r12_Fair.mono : ∀ a0 a1 k,LeO (r12_Fair.f k a0 a1) (r12_Fair.f (k+1) a0 a1):=by
 intro a0 a1 k
 have ih0:=r12_Fair.mono_l k
 unfold r12_Fair.f
 repeat' with_reducible first|apply ih0|apply r11_Right.mono|apply yLr|apply yLn|apply yLi|apply yLb|intro _
set_option maxHeartbeats 8000000 in
set_option maxRecDepth 100000 in
theorem r12_Fair.calls (k : Nat) (a0 : Int) (A1 : Option Addr) (c1 : Nat) (l1 : List (List Int)) (r : Bool) (w : World) (hr1 : Kd.C (Kd.slice 3 (Kd.int .i64)) w A1 l1.length l1) (hc1 : l1.length≤c1) (h : r12_Fair.f k a0 l1=some r) :
  Calls Try.prog 17 #[.int .i64 a0, .slice A1 l1.length c1] w fun e w' => e=.returned (.bool r)∧Drawn0 w w' := by
 have HR1:=zm hr1;have HC1:=zm hc1;clear hr1 hc1;have H:=h
 unfold r12_Fair.f at H
 clear h
 by_cases c3 : (l1.length : Int)=a0
 ·
  rw [if_pos c3] at H
  obtain ⟨aq,au⟩:=yE c3
  clear c3
  have H' := zm H
  clear H
  go_enter Try.func17,Try.ntmps17
  go_wp2
  go_loopg [5] k (fun kq v5 w' => ∃ (aa : Int),v5=.int .i64 aa∧Aside0 (r12_Fair.l0 kq l1 aa=some r)∧Aside0 (kq≤k)∧Drawn0 w w')
  case atStart=>exact ⟨(0),yq,H',⟨Nat.le_refl _⟩,yd⟩
  case round =>
   clear H'
   try clear c1
   try clear aq
   try clear au
   obtain ⟨aa,rfl,HA,HK1,⟨m1,rfl⟩⟩:=hrel
   obtain ⟨k1,rfl⟩:=ysu gk (fun h=>by subst h;exact absurd HA.out (by simp [r12_Fair.l0]))
   have H:=HA.out;clear HA
   simp only [r12_Fair.l0] at H
   by_cases c4 : aa < (l1.length : Int)
   ·
    rw [if_pos c4] at H
    have aw:=yD c4
    clear c4
    obtain ⟨c5,H⟩:=yif H
    have ax : decide (0≤aa)=true:=decide_eq_true c5
    clear c5
    obtain ⟨ao,A6,H⟩:=ybi H
    by_cases c7 : ao=true
    ·
     subst c7
     rw [if_pos rfl] at H
     have H' := zm H
     clear H
     have ah : 0≤(aa : Int):=yt
     have ai : aa < (l1.length : Int):=yt
     obtain ⟨av,aj,ak,ap,am,ac,ae⟩:=at_L1 HR1.out aa ah ai
     cases ap
     have af:=zm ae;have ag:=zm ac;clear ae ac
     replace ah:=eq_true ah
     replace ai:=eq_true ai
     go_wp2_with (first|((with_reducible refine gate_callee (f:=47) rfl ?_);refine ygl 20 Try.func47 #[.slice aj (rd_L1 l1 aa).length ak] ?_;(with_reducible refine (r11_Right.calls k1 _ _ (rd_L1 l1 aa) true _ ?al ag.out A6.out).mono ?_);(case al=>exact yce af.out);rintro e w' ⟨rfl,⟨nd,rfl⟩⟩;refine ⟨_,rfl, ?_⟩))
     go_roundg k1
     case measure=>exact yom1 HK1
     case rel=>exact ⟨(wrap64 (aa+1)),yq,H',⟨yom1 HK1⟩,yd⟩
    replace c7:=Bool.eq_false_iff.mpr c7
    subst c7
    rw [ynf] at H
    obtain rfl:=Option.some.inj H
    have ah : 0≤(aa : Int):=yt
    have ai : aa < (l1.length : Int):=yt
    obtain ⟨av,aj,ak,ap,am,ac,ae⟩:=at_L1 HR1.out aa ah ai
    cases ap
    have af:=zm ae;have ag:=zm ac;clear ae ac
    replace ah:=eq_true ah
    replace ai:=eq_true ai
    go_wp2_with (first|((with_reducible refine gate_callee (f:=47) rfl ?_);refine ygl 20 Try.func47 #[.slice aj (rd_L1 l1 aa).length ak] ?_;(with_reducible refine (r11_Right.calls k1 _ _ (rd_L1 l1 aa) false _ ?al ag.out A6.out).mono ?_);(case al=>exact yce af.out);rintro e w' ⟨rfl,⟨nd,rfl⟩⟩;refine ⟨_,rfl, ?_⟩))
    go_ret
    exact ⟨yq,yd⟩
   rw [if_neg c4] at H
   have aw:=yG c4
   clear c4
   obtain rfl:=Option.some.inj H
   go_wp2
   go_ret
   exact ⟨yq,yd⟩
 rw [if_neg c3] at H
 obtain ⟨aq,au⟩:=yF c3
 obtain rfl:=Option.some.inj H
 go_enter Try.func17,Try.ntmps17
 go_wp2
 go_ret
 exact ⟨yq,yd⟩
end Go.Proofs.Ytnmbndkojpjkmaa.Prt
