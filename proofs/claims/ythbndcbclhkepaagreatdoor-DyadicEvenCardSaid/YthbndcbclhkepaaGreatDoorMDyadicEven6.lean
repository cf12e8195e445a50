/-
  Texts of a proof, joined. Conditions stand in each statement.
-/
import Derived.Test.YthbndcbclhkepaaGreatDoorMDyadicEven5
set_option linter.unusedVariables false
set_option linter.unusedSimpArgs false
namespace Go.Proofs.YthbndcbclhkepaaGreatDoor
open Go Go.QF
set_option maxRecDepth 100000
set_option maxHeartbeats 4000000
noncomputable def Aa7 (fuel:Nat) (Ab Ac Aa:Int):Option ((Int) ⊕ ((Int))):=
  (((if Aa < Ab then (if 0<=Aa/\Aa<=64 then (if (AY7 .and .i64 (Ac / 2 ^ Int.toNat Aa) 1)=0 then (some (Sum.inl <| ())) else (some (Sum.inr <| ()))) else none) else (some (Sum.inr <| ()))):Option ((Unit) ⊕ (Unit))).bind (fun ex=>match ex with | Sum.inl _=>(some (Sum.inl (w64 (Aa + 1)))) | Sum.inr (_)=>(some (Sum.inr<| Aa))))
noncomputable def Aa8 (fuel:Nat) (Ah:Int) (Ad:LiI) (Ab Ae Af Ac Aa:Int):Option ((Int × Int × Int × Int) ⊕ ((Int × Int × Int))):=
  (if (w64 (Aa + Ab)) < (Ad.length:Int) then ((((gI Ad Aa).bind fun Ai=>((gI Ai (w64 (Aa + Ab))).bind fun Aj=>((((iter (fun s=>Aa7 fuel Ah Aj s) fuel 0).bind (fun (Ak:Int)=>(some ( Ak)))):Option (Int)).bind fun Ag=>(if Ag < Ac then (some ( (Aa,(w64 (Aa + Ab)),Ag))) else (some ( (Ae,Af,Ac))))))):Option ((Int × Int × Int))).bind (fun ((Am,Ao,Ap):Int × Int × Int)=>(some (Sum.inl (Am,Ao,Ap,(w64 (Aa + 1))))))) else (some (Sum.inr<| (Ae,Af,Ac))))
noncomputable def Aa9 (fuel:Nat) (Ag Ab:Int) (Ac:LiI) (Ad Ae Af Aa:Int):Option ((Int × Int × Int × Int) ⊕ ((Int × Int × Int))):=
  (if Aa < (w64 ((Ac.length:Int) - Ab)) then ((iter (fun s=>Aa8 fuel Ag Ac Aa s.1 s.2.1 s.2.2.1 s.2.2.2) fuel (Ad,Ae,Af,Ab)).bind (fun ((Ah,Ai,Aj):Int × Int × Int)=>(some (Sum.inl (Ah,Ai,Aj,(w64 (Aa + 1))))))) else (some (Sum.inr<| (Ad,Ae,Af))))
noncomputable def AZ9 (fuel:Nat) (Ab:Int) (Ag:LiI) (Aa:Int) (Ac:LiI):Option ((Int × LiI) ⊕ ((LiI))):=
  (if Aa < (Ag.length:Int) then ((gI Ac Aa).bind fun Ad=>((gI Ad Ab).bind fun Ae=>((gI Ad (w64 (Ab - 1))).bind fun Ah=>((gI (sI Ac Aa (sI Ad (w64 (Ab - 1)) Ae)) Aa).bind fun Af=>((gI Af Ab).bind fun Ai=>(some (Sum.inl ((w64 (Aa + 1)),(sI (sI Ac Aa (sI Ad (w64 (Ab - 1)) Ae)) Aa (sI Af Ab Ah)))))))))) else (some (Sum.inr<| Ac)))
noncomputable def Aaa (fuel:Nat) (Ab:Int) (Ag:LiI) (Aa:Int) (Ac:LiI):Option ((Int × LiI) ⊕ ((LiI))):=
  (if Aa < (Ag.length:Int) then ((gI Ac Aa).bind fun Ad=>((gI Ad Ab).bind fun Ae=>((gI Ad (w64 (Ab - 1))).bind fun Ah=>((gI (sI Ac Aa (sI Ad (w64 (Ab - 1)) Ae)) Aa).bind fun Af=>((gI Af Ab).bind fun Ai=>(some (Sum.inl ((w64 (Aa + 1)),(sI (sI Ac Aa (sI Ad (w64 (Ab - 1)) Ae)) Aa (sI Af Ab Ah)))))))))) else (some (Sum.inr<| Ac)))
noncomputable def AW1 (fuel:Nat) (Ad Aa:Int) (Ab Ac:LiI):Option ((Int × LiI × LiI) ⊕ ((LiI × LiI))):=
  (if Aa < 2 then (if Aa=0 then ((iter (fun s=>AZ9 fuel Ad Ab s.1 s.2) fuel (0,Ab)).bind (fun (Ae:LiI)=>(some (Sum.inl ((w64 (Aa + 1)),Ae,Ac))))) else (if Aa=1 then ((iter (fun s=>Aaa fuel Ad Ac s.1 s.2) fuel (0,Ac)).bind (fun (Af:LiI)=>(some (Sum.inl ((w64 (Aa + 1)),Ab,Af))))) else none)) else (some (Sum.inr<| (Ab,Ac))))
noncomputable def AYf (fuel:Nat) (Ad Aa:Int) (Ab Ac:LiI):Option ((Int × LiI × LiI) ⊕ ((LiI × LiI))):=
  (if Ad < Aa then ((((gI Ab Aa).bind fun Ae=>((gI Ab (w64 (Aa - 1))).bind fun Af=>((iter (fun s=>AW1 fuel Aa s.1 s.2.1 s.2.2) fuel (0,(sI (sI Ab (w64 (Aa - 1)) Ae) Aa Af),Ac)).bind (fun ((Ag,Ah):LiI × LiI)=>(some ( (Ag,Ah))))))):Option (LiI × LiI)).bind fun (Ai,Aj)=>(some (Sum.inl ((w64 (Aa - 1)),Ai,Aj)))) else (some (Sum.inr<| (Ab,Ac))))
noncomputable def Aab (fuel:Nat) (Ab:Int) (Ag:LiI) (Aa:Int) (Ac:LiI):Option ((Int × LiI) ⊕ ((LiI))):=
  (if Aa < (Ag.length:Int) then ((gI Ac Aa).bind fun Ad=>((gI Ad Ab).bind fun Ae=>((gI Ad (w64 (Ab - 1))).bind fun Ah=>((gI (sI Ac Aa (sI Ad (w64 (Ab - 1)) Ae)) Aa).bind fun Af=>((gI Af Ab).bind fun Ai=>(some (Sum.inl ((w64 (Aa + 1)),(sI (sI Ac Aa (sI Ad (w64 (Ab - 1)) Ae)) Aa (sI Af Ab Ah)))))))))) else (some (Sum.inr<| Ac)))
noncomputable def Aac (fuel:Nat) (Ab:Int) (Ag:LiI) (Aa:Int) (Ac:LiI):Option ((Int × LiI) ⊕ ((LiI))):=
  (if Aa < (Ag.length:Int) then ((gI Ac Aa).bind fun Ad=>((gI Ad Ab).bind fun Ae=>((gI Ad (w64 (Ab - 1))).bind fun Ah=>((gI (sI Ac Aa (sI Ad (w64 (Ab - 1)) Ae)) Aa).bind fun Af=>((gI Af Ab).bind fun Ai=>(some (Sum.inl ((w64 (Aa + 1)),(sI (sI Ac Aa (sI Ad (w64 (Ab - 1)) Ae)) Aa (sI Af Ab Ah)))))))))) else (some (Sum.inr<| Ac)))
noncomputable def AW2 (fuel:Nat) (Ad Aa:Int) (Ab Ac:LiI):Option ((Int × LiI × LiI) ⊕ ((LiI × LiI))):=
  (if Aa < 2 then (if Aa=0 then ((iter (fun s=>Aab fuel Ad Ab s.1 s.2) fuel (0,Ab)).bind (fun (Ae:LiI)=>(some (Sum.inl ((w64 (Aa + 1)),Ae,Ac))))) else (if Aa=1 then ((iter (fun s=>Aac fuel Ad Ac s.1 s.2) fuel (0,Ac)).bind (fun (Af:LiI)=>(some (Sum.inl ((w64 (Aa + 1)),Ab,Af))))) else none)) else (some (Sum.inr<| (Ab,Ac))))
noncomputable def AYg (fuel:Nat) (Ad Aa:Int) (Ab Ac:LiI):Option ((Int × LiI × LiI) ⊕ ((LiI × LiI))):=
  (if Ad < Aa then ((((gI Ab Aa).bind fun Ae=>((gI Ab (w64 (Aa - 1))).bind fun Af=>((iter (fun s=>AW2 fuel Aa s.1 s.2.1 s.2.2) fuel (0,(sI (sI Ab (w64 (Aa - 1)) Ae) Aa Af),Ac)).bind (fun ((Ag,Ah):LiI × LiI)=>(some ( (Ag,Ah))))))):Option (LiI × LiI)).bind fun (Ai,Aj)=>(some (Sum.inl ((w64 (Aa - 1)),Ai,Aj)))) else (some (Sum.inr<| (Ab,Ac))))
noncomputable def Aad (fuel:Nat) (Ab:Int) (Ag:LiI) (Aa:Int) (Ac:LiI):Option ((Int × LiI) ⊕ ((LiI))):=
  (if Aa < (Ag.length:Int) then ((gI Ac Aa).bind fun Ad=>((gI Ad Ab).bind fun Ae=>((gI Ad (w64 (Ab - 1))).bind fun Ah=>((gI (sI Ac Aa (sI Ad (w64 (Ab - 1)) Ae)) Aa).bind fun Af=>((gI Af Ab).bind fun Ai=>(some (Sum.inl ((w64 (Aa + 1)),(sI (sI Ac Aa (sI Ad (w64 (Ab - 1)) Ae)) Aa (sI Af Ab Ah)))))))))) else (some (Sum.inr<| Ac)))
noncomputable def Aae (fuel:Nat) (Ab:Int) (Ag:LiI) (Aa:Int) (Ac:LiI):Option ((Int × LiI) ⊕ ((LiI))):=
  (if Aa < (Ag.length:Int) then ((gI Ac Aa).bind fun Ad=>((gI Ad Ab).bind fun Ae=>((gI Ad (w64 (Ab - 1))).bind fun Ah=>((gI (sI Ac Aa (sI Ad (w64 (Ab - 1)) Ae)) Aa).bind fun Af=>((gI Af Ab).bind fun Ai=>(some (Sum.inl ((w64 (Aa + 1)),(sI (sI Ac Aa (sI Ad (w64 (Ab - 1)) Ae)) Aa (sI Af Ab Ah)))))))))) else (some (Sum.inr<| Ac)))
noncomputable def AW3 (fuel:Nat) (Ad Aa:Int) (Ab Ac:LiI):Option ((Int × LiI × LiI) ⊕ ((LiI × LiI))):=
  (if Aa < 2 then (if Aa=0 then ((iter (fun s=>Aad fuel Ad Ab s.1 s.2) fuel (0,Ab)).bind (fun (Ae:LiI)=>(some (Sum.inl ((w64 (Aa + 1)),Ae,Ac))))) else (if Aa=1 then ((iter (fun s=>Aae fuel Ad Ac s.1 s.2) fuel (0,Ac)).bind (fun (Af:LiI)=>(some (Sum.inl ((w64 (Aa + 1)),Ab,Af))))) else none)) else (some (Sum.inr<| (Ab,Ac))))
noncomputable def AYh (fuel:Nat) (Ad Aa:Int) (Ab Ac:LiI):Option ((Int × LiI × LiI) ⊕ ((LiI × LiI))):=
  (if Ad < Aa then ((((gI Ab Aa).bind fun Ae=>((gI Ab (w64 (Aa - 1))).bind fun Af=>((iter (fun s=>AW3 fuel Aa s.1 s.2.1 s.2.2) fuel (0,(sI (sI Ab (w64 (Aa - 1)) Ae) Aa Af),Ac)).bind (fun ((Ag,Ah):LiI × LiI)=>(some ( (Ag,Ah))))))):Option (LiI × LiI)).bind fun (Ai,Aj)=>(some (Sum.inl ((w64 (Aa - 1)),Ai,Aj)))) else (some (Sum.inr<| (Ab,Ac))))
noncomputable def Aaf (fuel:Nat) (Ab Af Ae Ag:Int) (Ah:LiI) (Aa:Int) (Ac:LiI):Option ((Int × LiI) ⊕ ((LiI))):=
  (if Aa < (Ah.length:Int) then ((gI Ac Aa).bind fun Ad=>((gI Ad Ae).bind fun Ai=>((gI Ad Af).bind fun Aj=>(((if 0<=Ab/\Ab<=64 then (some ( (AY7 .and .i64 (w64 (Ai + (w64 (Ag * Aj)))) (w64 ((w64 (1 * 2 ^ Int.toNat Ab)) - 1))))) else none):Option (Int)).bind fun Ak=>(some (Sum.inl ((w64 (Aa + 1)),(sI Ac Aa (sI Ad Ae Ak))))))))) else (some (Sum.inr<| Ac)))
noncomputable def Aag (fuel:Nat) (Ab Af Ae Ag:Int) (Ah:LiI) (Aa:Int) (Ac:LiI):Option ((Int × LiI) ⊕ ((LiI))):=
  (if Aa < (Ah.length:Int) then ((gI Ac Aa).bind fun Ad=>((gI Ad Ae).bind fun Ai=>((gI Ad Af).bind fun Aj=>(((if 0<=Ab/\Ab<=64 then (some ( (AY7 .and .i64 (w64 (Ai + (w64 (Ag * Aj)))) (w64 ((w64 (1 * 2 ^ Int.toNat Ab)) - 1))))) else none):Option (Int)).bind fun Ak=>(some (Sum.inl ((w64 (Aa + 1)),(sI Ac Aa (sI Ad Ae Ak))))))))) else (some (Sum.inr<| Ac)))
noncomputable def Aah (fuel:Nat) (Ac Af Ad Ag:Int) (Ah:LiA) (Aa:Int) (Ab:LiI):Option ((Int × LiI) ⊕ ((LiI))):=
  (if Aa < (Ah.length:Int) then ((gI Ab Af).bind fun Ai=>((gI Ai Aa).bind fun Aj=>((gI Ab Ad).bind fun Ae=>((gI Ae Aa).bind fun Ak=>(((if 0<=Ac/\Ac<=64 then (some ( (AY7 .and .i64 (w64 (Ak + (w64 (Ag * Aj)))) (w64 ((w64 (1 * 2 ^ Int.toNat Ac)) - 1))))) else none):Option (Int)).bind fun Am=>(some (Sum.inl ((w64 (Aa + 1)),(sI Ab Ad (sI Ae Aa Am)))))))))) else (some (Sum.inr<| Ab)))
noncomputable def AW4 (fuel:Nat) (Ad Ae Af Ag Aa:Int) (Ab Ac:LiI):Option ((Int × LiI × LiI) ⊕ ((LiI × LiI))):=
  (if Aa < 2 then (if Aa=0 then ((iter (fun s=>Aaf fuel Ad Ae Af Ag Ab s.1 s.2) fuel (0,Ab)).bind (fun (Ah:LiI)=>(some (Sum.inl ((w64 (Aa + 1)),Ah,Ac))))) else (if Aa=1 then ((iter (fun s=>Aag fuel Ad Ae Af Ag Ac s.1 s.2) fuel (0,Ac)).bind (fun (Ai:LiI)=>(some (Sum.inl ((w64 (Aa + 1)),Ab,Ai))))) else none)) else (some (Sum.inr<| (Ab,Ac))))
noncomputable def Aai (fuel:Nat) (Aa Ac Ae Ai Ab:Int) (Ad Af:LiI):Option ((Int × LiI × LiI) ⊕ ((LiI × LiI))):=
  (if Ab < (Ad.length:Int) then ((gI Ad Ac).bind fun Aj=>((gI Aj Ab).bind fun Ak=>(if 0<=Ae/\Ae<=64 then (((if 0<=Aa/\Aa<=64 then (some ( (AY7 .and .i64 (w64 ((w64 (0 - (Ak / 2 ^ Int.toNat Ae))) * Ai)) (w64 ((w64 (1 * 2 ^ Int.toNat Aa)) - 1))))) else none):Option (Int)).bind fun Ag=>((((iter (fun s=>AW4 fuel Aa Ac Ab Ag s.1 s.2.1 s.2.2) fuel (0,Ad,Af)).bind (fun ((Ah,Am):LiI × LiI)=>((gI Ah Ac).bind fun Ao=>((iter (fun s=>Aah fuel Aa Ac Ab Ag Ao s.1 s.2) fuel (0,Ah)).bind (fun (Ap:LiI)=>(some ( (Ap,Am)))))))):Option (LiI × LiI)).bind fun (Aq,Ar)=>(some (Sum.inl ((w64 (Ab + 1)),Aq,Ar))))) else none))) else (some (Sum.inr<| (Ad,Af))))
noncomputable def Aaj (fuel:Nat) (Ab Af Ae Ag:Int) (Ah:LiI) (Aa:Int) (Ac:LiI):Option ((Int × LiI) ⊕ ((LiI))):=
  (if Aa < (Ah.length:Int) then ((gI Ac Aa).bind fun Ad=>((gI Ad Ae).bind fun Ai=>((gI Ad Af).bind fun Aj=>(((if 0<=Ab/\Ab<=64 then (some ( (AY7 .and .i64 (w64 (Ai + (w64 (Ag * Aj)))) (w64 ((w64 (1 * 2 ^ Int.toNat Ab)) - 1))))) else none):Option (Int)).bind fun Ak=>(some (Sum.inl ((w64 (Aa + 1)),(sI Ac Aa (sI Ad Ae Ak))))))))) else (some (Sum.inr<| Ac)))
noncomputable def Aak (fuel:Nat) (Ab Af Ae Ag:Int) (Ah:LiI) (Aa:Int) (Ac:LiI):Option ((Int × LiI) ⊕ ((LiI))):=
  (if Aa < (Ah.length:Int) then ((gI Ac Aa).bind fun Ad=>((gI Ad Ae).bind fun Ai=>((gI Ad Af).bind fun Aj=>(((if 0<=Ab/\Ab<=64 then (some ( (AY7 .and .i64 (w64 (Ai + (w64 (Ag * Aj)))) (w64 ((w64 (1 * 2 ^ Int.toNat Ab)) - 1))))) else none):Option (Int)).bind fun Ak=>(some (Sum.inl ((w64 (Aa + 1)),(sI Ac Aa (sI Ad Ae Ak))))))))) else (some (Sum.inr<| Ac)))
noncomputable def Aal (fuel:Nat) (Ac Af Ad Ag:Int) (Ah:LiA) (Aa:Int) (Ab:LiI):Option ((Int × LiI) ⊕ ((LiI))):=
  (if Aa < (Ah.length:Int) then ((gI Ab Af).bind fun Ai=>((gI Ai Aa).bind fun Aj=>((gI Ab Ad).bind fun Ae=>((gI Ae Aa).bind fun Ak=>(((if 0<=Ac/\Ac<=64 then (some ( (AY7 .and .i64 (w64 (Ak + (w64 (Ag * Aj)))) (w64 ((w64 (1 * 2 ^ Int.toNat Ac)) - 1))))) else none):Option (Int)).bind fun Am=>(some (Sum.inl ((w64 (Aa + 1)),(sI Ab Ad (sI Ae Aa Am)))))))))) else (some (Sum.inr<| Ab)))
noncomputable def AW5 (fuel:Nat) (Ad Ae Af Ag Aa:Int) (Ab Ac:LiI):Option ((Int × LiI × LiI) ⊕ ((LiI × LiI))):=
  (if Aa < 2 then (if Aa=0 then ((iter (fun s=>Aaj fuel Ad Ae Af Ag Ab s.1 s.2) fuel (0,Ab)).bind (fun (Ah:LiI)=>(some (Sum.inl ((w64 (Aa + 1)),Ah,Ac))))) else (if Aa=1 then ((iter (fun s=>Aak fuel Ad Ae Af Ag Ac s.1 s.2) fuel (0,Ac)).bind (fun (Ai:LiI)=>(some (Sum.inl ((w64 (Aa + 1)),Ab,Ai))))) else none)) else (some (Sum.inr<| (Ab,Ac))))
noncomputable def Aam (fuel:Nat) (Ab Af Ae Ag:Int) (Ah:LiI) (Aa:Int) (Ac:LiI):Option ((Int × LiI) ⊕ ((LiI))):=
  (if Aa < (Ah.length:Int) then ((gI Ac Aa).bind fun Ad=>((gI Ad Ae).bind fun Ai=>((gI Ad (w64 (Af + 1))).bind fun Aj=>(((if 0<=Ab/\Ab<=64 then (some ( (AY7 .and .i64 (w64 (Ai + (w64 (Ag * Aj)))) (w64 ((w64 (1 * 2 ^ Int.toNat Ab)) - 1))))) else none):Option (Int)).bind fun Ak=>(some (Sum.inl ((w64 (Aa + 1)),(sI Ac Aa (sI Ad Ae Ak))))))))) else (some (Sum.inr<| Ac)))
noncomputable def Aan (fuel:Nat) (Ab Af Ae Ag:Int) (Ah:LiI) (Aa:Int) (Ac:LiI):Option ((Int × LiI) ⊕ ((LiI))):=
  (if Aa < (Ah.length:Int) then ((gI Ac Aa).bind fun Ad=>((gI Ad Ae).bind fun Ai=>((gI Ad (w64 (Af + 1))).bind fun Aj=>(((if 0<=Ab/\Ab<=64 then (some ( (AY7 .and .i64 (w64 (Ai + (w64 (Ag * Aj)))) (w64 ((w64 (1 * 2 ^ Int.toNat Ab)) - 1))))) else none):Option (Int)).bind fun Ak=>(some (Sum.inl ((w64 (Aa + 1)),(sI Ac Aa (sI Ad Ae Ak))))))))) else (some (Sum.inr<| Ac)))
noncomputable def Aao (fuel:Nat) (Ac Af Ad Ag:Int) (Ah:LiA) (Aa:Int) (Ab:LiI):Option ((Int × LiI) ⊕ ((LiI))):=
  (if Aa < (Ah.length:Int) then ((gI Ab (w64 (Af + 1))).bind fun Ai=>((gI Ai Aa).bind fun Aj=>((gI Ab Ad).bind fun Ae=>((gI Ae Aa).bind fun Ak=>(((if 0<=Ac/\Ac<=64 then (some ( (AY7 .and .i64 (w64 (Ak + (w64 (Ag * Aj)))) (w64 ((w64 (1 * 2 ^ Int.toNat Ac)) - 1))))) else none):Option (Int)).bind fun Am=>(some (Sum.inl ((w64 (Aa + 1)),(sI Ab Ad (sI Ae Aa Am)))))))))) else (some (Sum.inr<| Ab)))
noncomputable def AW6 (fuel:Nat) (Ad Ae Af Ag Aa:Int) (Ab Ac:LiI):Option ((Int × LiI × LiI) ⊕ ((LiI × LiI))):=
  (if Aa < 2 then (if Aa=0 then ((iter (fun s=>Aam fuel Ad Ae Af Ag Ab s.1 s.2) fuel (0,Ab)).bind (fun (Ah:LiI)=>(some (Sum.inl ((w64 (Aa + 1)),Ah,Ac))))) else (if Aa=1 then ((iter (fun s=>Aan fuel Ad Ae Af Ag Ac s.1 s.2) fuel (0,Ac)).bind (fun (Ai:LiI)=>(some (Sum.inl ((w64 (Aa + 1)),Ab,Ai))))) else none)) else (some (Sum.inr<| (Ab,Ac))))
noncomputable def Aap (fuel:Nat) (Aa Ac Ab Aq Af Ar Ag Ad:Int) (Ae Ah:LiI):Option ((Int × LiI × LiI) ⊕ ((LiI × LiI))):=
  (if Ad < (Ae.length:Int) then ((gI Ae Ac).bind fun Au=>((gI Au Ad).bind fun Ai=>(if 0<=Ab/\Ab<=64 then ((gI Ae (w64 (Ac + 1))).bind fun Av=>((gI Av Ad).bind fun Aj=>(if 0<=Ab/\Ab<=64 then (((if 0<=Aa/\Aa<=64 then (some ( (AY7 .and .i64 (w64 ((w64 ((Af / 2 ^ Int.toNat Ab) * (Aj / 2 ^ Int.toNat Ab))) - (w64 ((Ar / 2 ^ Int.toNat Ab) * (Ai / 2 ^ Int.toNat Ab))))) (w64 ((w64 (1 * 2 ^ Int.toNat Aa)) - 1))))) else none):Option (Int)).bind fun Aw=>(((if 0<=Aa/\Aa<=64 then (some ( (AY7 .and .i64 (w64 ((w64 ((Af / 2 ^ Int.toNat Ab) * (Ai / 2 ^ Int.toNat Ab))) - (w64 ((Aq / 2 ^ Int.toNat Ab) * (Aj / 2 ^ Int.toNat Ab))))) (w64 ((w64 (1 * 2 ^ Int.toNat Aa)) - 1))))) else none):Option (Int)).bind fun Ax=>(((if 0<=Aa/\Aa<=64 then (some ( (AY7 .and .i64 (w64 (Aw * Ag)) (w64 ((w64 (1 * 2 ^ Int.toNat Aa)) - 1))))) else none):Option (Int)).bind fun Ak=>((((iter (fun s=>AW5 fuel Aa Ac Ad Ak s.1 s.2.1 s.2.2) fuel (0,Ae,Ah)).bind (fun ((Am,Ay):LiI × LiI)=>((gI Am Ac).bind fun Az=>((iter (fun s=>Aal fuel Aa Ac Ad Ak Az s.1 s.2) fuel (0,Am)).bind (fun (A3:LiI)=>(some ( (A3,Ay)))))))):Option (LiI × LiI)).bind fun (A4,A5)=>(((if 0<=Aa/\Aa<=64 then (some ( (AY7 .and .i64 (w64 (Ax * Ag)) (w64 ((w64 (1 * 2 ^ Int.toNat Aa)) - 1))))) else none):Option (Int)).bind fun Ao=>((((iter (fun s=>AW6 fuel Aa Ac Ad Ao s.1 s.2.1 s.2.2) fuel (0,A4,A5)).bind (fun ((Ap,A6):LiI × LiI)=>((gI Ap (w64 (Ac + 1))).bind fun A7=>((iter (fun s=>Aao fuel Aa Ac Ad Ao A7 s.1 s.2) fuel (0,Ap)).bind (fun (A8:LiI)=>(some ( (A8,A6)))))))):Option (LiI × LiI)).bind fun (A9,Ba)=>(some (Sum.inl ((w64 (Ad + 1)),A9,Ba))))))))) else none))) else none))) else (some (Sum.inr<| (Ae,Ah))))
noncomputable def AWd (fuel:Nat) (a3:LiI) (Ac Ab:Int) (Ae Ah:LiI) (Ai:(List AW8)):Option ((Int × LiI × LiI × (List AW8)) ⊕ ((LiI × LiI × (List AW8)))):=
  (if Ab < (a3.length:Int) then ((((((iter (fun s=>Aa9 fuel Ac Ab Ae s.1 s.2.1 s.2.2.1 s.2.2.2) fuel (Ab,Ab,Ac,0)).bind (fun ((Av,Aw,Ax):Int × Int × Int)=>(some ( (Av,Aw,Ax))))):Option (Int × Int × Int)).bind fun (Aj,Ao,Aa)=>(((if Aj < Ao then ((((iter (fun s=>AYf fuel Ab s.1 s.2.1 s.2.2) fuel (Ao,Ae,Ah)).bind (fun ((Ay,Az):LiI × LiI)=>(some ( (Ay,Az))))):Option (LiI × LiI)).bind fun (A3,A4)=>((((iter (fun s=>AYg fuel Ab s.1 s.2.1 s.2.2) fuel ((w64 (Aj + 1)),A3,A4)).bind (fun ((A5,A6):LiI × LiI)=>(some ( (A5,A6))))):Option (LiI × LiI)).bind fun (A7,A8)=>(some ( (A7,A8,2))))) else ((((iter (fun s=>AYh fuel Ab s.1 s.2.1 s.2.2) fuel (Aj,Ae,Ah)).bind (fun ((A9,Ba):LiI × LiI)=>(some ( (A9,Ba))))):Option (LiI × LiI)).bind fun (Bb,Bc)=>(some ( (Bb,Bc,1))))):Option ((LiI × LiI × Int))).bind (fun ((Af,Ap,Ak):LiI × LiI × Int)=>((gI Af Ab).bind fun Aq=>((gI Aq Ab).bind fun Ad=>(if 0<=Aa/\Aa<=64 then (if Ak=1 then (((if 0<=Ac/\Ac<=64 then ((AZk fuel ([([(Ad / 2 ^ Int.toNat Aa)]:List Int)]:List LiA) (w64 (1 * 2 ^ Int.toNat Ac))).bind fun (Be,B6)=>((gI Be 0).bind fun Bf=>((gI Bf 0).bind fun Bg=>(some ( Bg))))) else none):Option (Int)).bind fun Bh=>((((iter (fun s=>Aai fuel Ac Ab Aa Bh s.1 s.2.1 s.2.2) fuel ((w64 (Ab + 1)),Af,Ap)).bind (fun ((Bi,Bj):LiI × LiI)=>(some ( (Bi,Bj))))):Option (LiI × LiI)).bind fun (Bl,Bm)=>(some ( (Aa,Ak,(Ad / 2 ^ Int.toNat Aa),0,0,Bl,Bm))))) else ((gI Aq (w64 (Ab + 1))).bind fun Ag=>(if 0<=Aa/\Aa<=64 then ((gI Af (w64 (Ab + 1))).bind fun Bn=>((gI Bn (w64 (Ab + 1))).bind fun Am=>(if 0<=Aa/\Aa<=64 then (((((if 0<=Ac/\Ac<=64 then (some ( (AY7 .and .i64 (w64 ((w64 ((Ad / 2 ^ Int.toNat Aa) * (Am / 2 ^ Int.toNat Aa))) - (w64 ((Ag / 2 ^ Int.toNat Aa) * (Ag / 2 ^ Int.toNat Aa))))) (w64 ((w64 (1 * 2 ^ Int.toNat Ac)) - 1))))) else none):Option (Int)).bind fun Bo=>(((if 0<=Ac/\Ac<=64 then ((AZk fuel ([([Bo]:List Int)]:List LiA) (w64 (1 * 2 ^ Int.toNat Ac))).bind fun (Bp,B7)=>((gI Bp 0).bind fun Bq=>((gI Bq 0).bind fun Br=>(some ( Br))))) else none):Option (Int)).bind fun Bt=>((iter (fun s=>Aap fuel Ac Ab Aa Ad Ag Am Bt s.1 s.2.1 s.2.2) fuel ((w64 (Ab + 2)),Af,Ap)).bind (fun ((Bu,Bv):LiI × LiI)=>(some ( (Bu,Bv))))))):Option (LiI × LiI)).bind fun (Bw,Bx)=>(some ( (Aa,Ak,(Ad / 2 ^ Int.toNat Aa),(Ag / 2 ^ Int.toNat Aa),(Am / 2 ^ Int.toNat Aa),Bw,Bx)))) else none))) else none))) else none)))))):Option (Int × Int × Int × Int × Int × LiI × LiI)).bind fun (By,Ar,Bz,B1,B3,B4,B5)=>(if Ai.length<=100000000 then (some (Sum.inl ((w64 (Ab + Ar)),B4,B5,(Ai ++ [(By,Ar,Bz,B1,B3)])))) else none)) else (some (Sum.inr<| (Ae,Ah,Ai))))
noncomputable def Aba (fuel:Nat) (a3:LiI) (Aa:Int) (Ac:LiI):Option ((Int × LiI) ⊕ ((LiI))):=
  (if Aa < (a3.length:Int) then (if 0<=(a3.length:Int)/\(a3.length:Int)<=100000000 then (if Ac.length<=100000000 then ((gI (Ac ++ [(List.replicate (Int.toNat (a3.length:Int)) (0:Int))]) Aa).bind fun Ad=>((gI Ad Aa).bind fun Ae=>(some (Sum.inl ((w64 (Aa + 1)),(sI (Ac ++ [(List.replicate (Int.toNat (a3.length:Int)) (0:Int))]) Aa (sI Ad Aa 1))))))) else none) else none) else (some (Sum.inr<| Ac)))
noncomputable def Aa2 (fuel:Nat) (a3:LiI):Option ((Int × LiI × (List AW8)) × Int):=
  ((AWs fuel a3 2).bind fun (Ab,Ac)=>(if ¬ Ac=0 then (some ((0,[],[]),Ac)) else (if 0<=Ab/\Ab<=64 then ((Aa1 fuel a3 (w64 (1 * 2 ^ Int.toNat Ab))).bind fun (Ad,Ah)=>((iter (fun s=>Aba fuel a3 s.1 s.2) fuel (0,[])).bind (fun (Ae:LiI)=>((iter (fun s=>AWd fuel a3 Ab s.1 s.2.1 s.2.2.1 s.2.2.2) fuel (0,Ad,Ae,[])).bind (fun ((Ai,Af,Ag):LiI × LiI × (List AW8))=>(some ((2,Af,Ag),0))))))) else none)))
theorem Alp {fuel:Nat} {h:AGs} {Ih:Value} {a3:LiI} {r:((Int × LiI × (List AW8)) × Int)} (H2:AXq (cI .i64) h Ih a3) (HO:Am5 h) (hp:Aa2 fuel a3=some r):ATt Tryz.prog 14 #[Ih] h (fun x h'=>Ext h h'/\ ∃ (Ij:Value) (Ik:Value) (Il:List Nat) (Lq:List LnA) (Lr:List Value) (Im:List Nat),x= .tuple #[.agg #[.int .i64 r.1.1,Ij,Ik],.int .i64 r.2]/\AVo (cI .i64) 49 2 h' Il Lq Lr Ij r.1.2.1/\OwC Akv 58 h' Im Ik r.1.2.2/\Sp h' h.size [Il,Im]):=by
 unfold Aa2 at hp;refine cwf (l:=[_]) Tryz.func14 rfl rfl (AGl (AVt (Kst.k0 h) [(.int .i64 0),(.slice none 0 0),(.slice none 0 0)] At1 fun b5 h6 E8 Ds=>ATx (AGi ?_)));obtain ⟨⟨Ag,x13⟩,Lv,Dt⟩:=AGm hp;dsimp only at Dt;refine AXx Ds (Agv (H2.ext Ds.x) (HO.ext Ds.x) Lv) fun h17 E16 Du=>AGi (AUe rfl rfl (AUe rfl rfl (ATi (AGw (AGn (AGl (AGi (AXa rfl rfl (AGq (⟨_,rfl,fun Dv=>?_,fun Dv=>?_⟩))))))))))
 ·refine AGl (AWe (v:=(.agg #[(.int .i64 0),(.slice none 0 0),(.slice none 0 0)])) (fun _=>by kernel_rfl) (AGi (AUz [(.int .i64 0),(.slice none 0 0),(.slice none 0 0)] Af7 rfl rfl rfl rfl (by simp [isOne]) (Du.b p0) fun h23 Lw Lx=>AGw (AGy (ATb ?_)))));have B5:=Kst.anil Akv 58 (Kst.anil2 (cI .i64) 49 2 (Du.sb p0 Lx Lw rfl));obtain rfl:=AGk (AT0 Dt Dv);exact ⟨_,Aks Af7 rfl rfl (B5.b p2),B5.x,_,_,_,_,_,_,rfl,(B5.o2 p1),(B5.o p0),B5.s.sel [1,0] AGj⟩
 ·refine AGx (q_t (AGl (AGi (AWe (v:=(.agg #[(.int .i64 Ag),(.slice none 0 0),(.slice none 0 0)])) (fun _=>by kernel_rfl) (AYn Du [(.int .i64 Ag),(.slice none 0 0),(.slice none 0 0)] fun Ly h35 E37 Io=>ATx (AGi (AGi (AGi ?_))))))));obtain ⟨Lz,L9⟩:=ifN (AT1 Dt Dv);refine AYt rfl rfl Lz ?_;obtain ⟨⟨Ma,x44⟩,Mb,Ip⟩:=AGm L9;dsimp only at Ip;refine Afg rfl (Alo (H2.ext Io.x) Mb) fun AGr h48 Mc Md=>?_;obtain ⟨Ab,Me,Mf,Mg,rfl,Mh,Mi⟩:=Md;refine AGi (AUe rfl rfl (AUe rfl rfl (AUq rfl (AVp AVa rfl ?_))));have Dw:=Io.no2 Mc Mi Mh;refine Agr [(.int .i64 Ag),Ab,(.slice none 0 0)] AU1 rfl rfl (Dw.o2 p0).isOne (Dw.b p1) (Nat.le_of_ble_eq_true rfl) rfl fun h60 Mj Mk=>AGq (AGn (AGl (AGi (AT3 AS8 rfl H2 (AGi (AGq (AGo ?_)))))));have Iq:=Kst.anil2 (cI .i64) 49 2 (Dw.sb p1 Mk Mj rfl);refine AX3 1152921470247108736 (fun x:(Int) × (LiI) × (Value) × LnA × LnN × LvA=>(x.1,x.2.1)) ((0,[],(.slice none 0 0),[],[],[]):(Int) × (LiI) × (Value) × LnA × LnN × LvA) Ip (fun x=>[(35,(.int .i64 x.1))]) (fun x=>(Iq.L.set 0 (aO2 (cI .i64) 49 2 x.2.2.2.1 x.2.2.2.2.1 x.2.2.2.2.2 x.2.2.1 x.2.1)).set 2 (aB 79 Ly [(.int .i64 Ag),Ab,x.2.2.1])) Iq ⟨rfl,trivial⟩ ?_;rintro ⟨Ml,Mm,Ac,Ad,Ae,Af⟩ AGu Dx y70 B6 Dy Mo;unfold Aba at Dy;refine AGl (ATm rfl rfl (AGq (AGn (⟨_,rfl,fun Dz=>?_,fun Dz=>?_⟩))))
  ·refine AGx (q_t (AGn (AGo (AGl (AGi (AGw (AGn (AU8 (fun h'=>UpT (Ad ++ []) Dx h') AGv ?_))))))));have Co:UpT (Ad ++ []) Dx Dx:=UpT.start (AVj (B6.o2 p0).notD all_nil);refine AGi (AGi (AUq rfl (AVp Ag8 rfl (AUy AU1 rfl Co (fun h' hb=>((B6.b p2).upT hb (A3c (B6.dj p2 p0 AGj) A3d)).cell (i:=2) rfl) (AGi (AT3 AS8 rfl H2 ?_))))));obtain ⟨Mq,Mr⟩:=ifN (AT0 Dy Dz);refine Aii (c:=(cI .i64)) (a:=0) AS7 Ace rfl rfl (fun _=>rfl) rfl Co (fun _ E=>Co.thenE E) rfl rfl AGj Mq fun b92 v91 h89 Ms Ir Mt Mu=>?_;have Is:=Co.thenE Ir;have Cp:=B6.no Ir (AXv Mt Mu) Ms;obtain ⟨Mv,Mw⟩:=ifN Mr;refine Ay5 AS8 Aez rfl rfl Is (fun _ U=>Is.then U (Aeu rfl)) (fun _=>rfl) rfl (Cp.o p0) (Cp.o2 p1) (Cp.dj p0 p1 AGj) AGj Mv fun AGz AG0 Mx AG1 My Mz M0=>AUq rfl (AVp Ag8 rfl ?_);have D0:=Cp.m2 p0 p1 AGj Mz My M0;refine Agr [(.int .i64 Ag),Ab,Mx] AU1 rfl rfl (D0.o2 p1).isOne (D0.b p3) (Nat.le_of_ble_eq_true rfl) rfl fun AG2 M1 M2=>AGq (AS3 ?_);have D1:=D0.sb p3 M2 M1 rfl;refine AGi (AUq rfl (AUv Ag8 AU1 (D1.b p3) 2 rfl (AGi ?_)));obtain ⟨AG3,It,M3⟩:=AGm Mw;refine AUg AS8 ATk (D1.o2 p1) It fun _ AG4 M4=>AGi ?_;obtain ⟨AG5,M5,M6⟩:=AGm M3;refine AZi (m:=Ml) D1 p1 AS7 ATd M4 It M5 (fun _=>rfl) fun _ AG6 M7=>ATf (q_b (q_t (AS3 (ATj rfl rfl (AGi (AGq ?_))))));exact ⟨(_,_,_,_,_,_),(AGk M6).symm,M7.sel [1,2,3,4] AGj,rfl,trivial⟩
  ·refine AS9 (ATa (ATa (AT9 (q_t (AGl (AWe (v:=(.agg #[(.int .i64 2),(.slice none 0 0),(.slice none 0 0)])) (fun _=>by kernel_rfl) (AVt B6 [(.int .i64 0),(.slice none 0 0),(.slice none 0 0)] At1 fun M8 AG7 AG8 Iu=>AUz [(.int .i64 2),(.slice none 0 0),(.slice none 0 0)] Af7 rfl rfl rfl rfl (by simp [isOne]) (Iu.b p0) fun AG9 M9 Na=>AGq (AGn (AGl (AGw (AGo ?_)))))))))));have Iv:=Kst.anil Akv 58 (Iu.sb p0 Na M9 rfl);refine AX3 302229149060648079984128 (fun x:(Int) × (LiI) × LnA × LnN × LvA × (LiI) × ((List AW8)) × (Value) × LnA=>(x.1,x.2.1,x.2.2.2.2.2.1,x.2.2.2.2.2.2.1)) ((0,Ma,Me,Mf,Mg,Mm,[],(.slice none 0 0),[]):(Int) × (LiI) × LnA × LnN × LvA × (LiI) × ((List AW8)) × (Value) × LnA) (Mo _ (AGk (AT1 Dy Dz)).symm) (fun x=>[(9,(.int .i64 x.1))]) (fun x=>(((Iv.L.set 3 (aO2 (cI .i64) 49 2 x.2.2.1 x.2.2.2.1 x.2.2.2.2.1 Ab x.2.1)).set 2 (aO2 (cI .i64) 49 2 Ad Ae Af Ac x.2.2.2.2.2.1)).set 0 (aO Akv 58 x.2.2.2.2.2.2.2.2 x.2.2.2.2.2.2.2.1 x.2.2.2.2.2.2.1)).set 1 (aB 29 M8 [(.int .i64 2),(.slice none 0 0),x.2.2.2.2.2.2.2.1])) Iv ⟨rfl,trivial⟩ ?_;rintro ⟨A5,Iw,Ix,Iy,Iz,I0,AHa,D2,AHb⟩ AHc AHd AHe Bo D3 Nb;unfold AWd at D3;refine AGn (AGl (AGi (AGi (AT3 AS8 rfl H2 (ATm rfl rfl (AGq (⟨_,rfl,fun D4=>?_,fun D4=>?_⟩)))))))
   ·refine AGx (q_t (AGo (AGl (AGi (AGi ?_)))));obtain ⟨Nc,Nd,Nf⟩:=AGm (AT0 D3 D4);refine ATc (K':=(fun xr h'=> ∃ x:(Int) × (Int) × (Int) × (Int) × (Int) × (LiI) × LnA × LnN × LvA × (LiI),(x.1,x.2.1,x.2.2.1,x.2.2.2.1,x.2.2.2.2.1,x.2.2.2.2.2.1,x.2.2.2.2.2.2.2.2.2)=Nc/\xr=(.agg #[(.int .i64 x.1),(.int .i64 x.2.1),(.int .i64 x.2.2.1),(.int .i64 x.2.2.2.1),(.int .i64 x.2.2.2.2.1)])/\Kst h h' ((Bo.L.set 3 (aO2 (cI .i64) 49 2 x.2.2.2.2.2.2.1 x.2.2.2.2.2.2.2.1 x.2.2.2.2.2.2.2.2.1 Ab x.2.2.2.2.2.1)).set 2 (aO2 (cI .i64) 49 2 Ad Ae Af Ac x.2.2.2.2.2.2.2.2.2)))) trivial rfl ?_ fun AHf AHg Ng=>?_
    ·refine cwf (l:=[_,_]) Tryz.func41 rfl rfl (AGl (AVt Bo [(.int .i64 0),(.int .i64 0),(.int .i64 0),(.int .i64 0),(.int .i64 0)] Amb fun AHh AHi AHj Bp=>AZf (AGi (AGi ?_))));obtain ⟨Nh,Ni,Nj⟩:=AGm Nd;refine ATc (K':=(fun xr h'=> ∃ x:(Int) × (Int) × (Int),(x.1,x.2.1,x.2.2)=Nh/\xr= .tuple #[(.int .i64 x.1),(.int .i64 x.2.1),(.int .i64 x.2.2)]/\Kst h h' (Bp.L))) trivial rfl ?_ fun AHk AHl Nk=>?_
     ·refine cwf (l:=[_,_]) Tryz.func82 rfl rfl (AGl (ATi (ATi (AGw (AGn (AXm (AGi (AGi (AGi (AUq rfl (AUv AZ7 AT2 (Bp.b p5) 0 rfl (ATi (ATi (AGw (AGn (AGl (AGi (AUq rfl (AUv AVa AU1 (Bp.b p5) 1 rfl (AT3 AS8 rfl (Bp.o2 p4).rd (AGi (AVe rfl rfl (AGi (AGq (AGo ?_)))))))))))))))))))))))));refine AY2 18446744073642450816 Ni (fun x=>[(7,(.int .i64 x.1)),(8,(.int .i64 x.2.1)),(9,(.int .i64 x.2.2.1)),(26,(.int .i64 x.2.2.2))]) (fun x=>Bp.L) Bp ⟨rfl,rfl,rfl,rfl,trivial⟩ ?_;rintro ⟨Nl,Nm,Nn,Np⟩ AHm AHn AHo D5 D6 Nq;unfold Aa9 at D6;refine AGl (ATm rfl rfl (AGq (AGn (⟨_,rfl,fun D7=>?_,fun D7=>?_⟩))))
      ·refine AGx (q_t (AGn (AGo (AGl (AGi (ATx (AGi (AGw (AGo (AY2 9223372035781041024 (AT0 D6 D7) (fun x=>[(7,(.int .i64 x.1)),(8,(.int .i64 x.2.1)),(9,(.int .i64 x.2.2.1)),(11,(.int .i64 x.2.2.2))]) (fun x=>D5.L) D5 ⟨rfl,rfl,rfl,rfl,trivial⟩ ?_))))))))));rintro ⟨Nr,Ns,Nt,D8⟩ AHp AHq AHr Ay D9 Nu;unfold Aa8 at D9;refine AGn (AGl (AGi (AGi (ATj rfl rfl (AGi (AUq rfl (AUv AVa AU1 (Ay.b p5) 1 rfl (AT3 AS8 rfl (Ay.o2 p4).rd (ATm rfl rfl (AGq (⟨_,rfl,fun Ea=>?_,fun Ea=>?_⟩)))))))))))
       ·refine AGx (q_t ?_);obtain ⟨Nv,Nw,Ny⟩:=AGm (AT0 D9 Ea);refine Aey 9223369837831525248 (fun x:(Int) × (Int) × (Int)=>[(7,(.int .i64 x.1)),(8,(.int .i64 x.2.1)),(9,(.int .i64 x.2.2))]) (fun x h'=>( (x.1,x.2.1,x.2.2))=Nv/\Kst h h' (Ay.L)) ?_ ?_
        ·refine AGo (AGl (AGi (AGi (AUq rfl (AUv AVa AU1 (Ay.b p5) 1 rfl (AGi ?_))))));obtain ⟨AHs,I1,Nz⟩:=AGm Nw;refine AUg AS8 ATk (Ay.o2 p4) I1 fun _ AHt N0=>AGi (AGi (ATj rfl rfl ?_));obtain ⟨AHu,N3,N4⟩:=AGm Nz;refine AWi (m:=D8) AS7 ATd (Ay.o2 p4) N0 I1 N3 fun _=>?_;obtain ⟨N5,N6,I2⟩:=AGm N4;refine ATc (K':=(fun xr h'=> ∃ x:(Int),x=N5/\xr=(.int .i64 x)/\Kst h h' (Ay.L))) trivial rfl ?_ fun AHv AHw N7=>?_
         ·refine cwf (l:=[_,_]) Tryz.func129 rfl rfl (AGl (ATx (AGw (AGn (AGo (AY2 2097120 N6 (fun x=>[(5,(.int .i64 x))]) (fun x=>Ay.L) Ay ⟨rfl,trivial⟩ ?_))))));rintro Eb AHx AHy AHz B7 I3 I5;unfold Aa7 at I3;obtain ⟨N8,I6,Ec⟩:=AGm I3;refine Aey 524224 (fun x:Unit=>[]) (fun x h'=>(Sum.inl <| ())=N8/\Kst h h' (B7.L)) ?_ ?_
          ·refine AGl (AGi (AGi (AUq rfl (AUv AZ7 AT2 (B7.b p5) 0 rfl (ATm rfl rfl (AGi ?_))))));by_cases Cq:Eb < Ag
           ·rw [decide_eq_true Cq];refine ATo 12 true (AGi (ATo 12 true (AGi (ATo 12 true ?_))));obtain ⟨N9,I7⟩:=ifN (ifT I6 Cq);refine Ann rfl rfl N9 (ATo 12 true (Aax rfl rfl AGj (ATo 12 true (AV2 rfl rfl (ATh rfl (AGq (⟨_,rfl,fun Ed=>?_,fun Ed=>?_⟩)))))))
            ·refine AGx (q_t ?_);exact ⟨(():Unit),⟨AGk (AT0 I7 Ed),B7⟩,trivial⟩
            ·obtain rfl:=AGk (AT1 I7 Ed);refine AS9 (ATa (ATa (AT9 (q_t (AGl (AGi (AGw (AGy (⟨_,AS1,(Eb:(Int)),?_,rfl,?_⟩)))))))))
             ·exact AGk (I5 _ (AGk Ec).symm)
             ·exact B7
           ·rw [decide_eq_false Cq];refine Acd 12 false (ATq rfl (AGq (ATp rfl ?_)));obtain rfl:=AGk (ifF I6 Cq);refine AS9 (ATa (ATa (AT9 (q_t (AGl (AGi (AGw (AGy (⟨_,AS1,(Eb:(Int)),?_,rfl,?_⟩)))))))))
            ·exact AGk (I5 _ (AGk Ec).symm)
            ·exact B7
          rintro ⟨⟩ AH0 AH1 ⟨Oa,Ob⟩;subst Oa;refine AGo (AS3 (AGi (ATj rfl rfl (ATi (ATf (q_b (q_t ?_)))))));exact ⟨_,(AGk Ec).symm,Ob,rfl,trivial⟩
         obtain ⟨Oc,Od,rfl,I9⟩:=N7;refine ⟨trivial,?_⟩;subst Od;refine ATx (AGi (AGi (ATm rfl rfl (AGq (⟨_,rfl,fun Ee=>?_,fun Ee=>?_⟩)))))
         ·refine AS3 (AGi (AGi (AGi (ATj rfl rfl (AGi (ATi (ATi (ATi (ATf (q_b (q_t ?_)))))))))));exact ⟨((D8,(w64 (D8 + Np)),Oc):(Int) × (Int) × (Int)),⟨AGk (AT0 I2 Ee),I9⟩,rfl,rfl,rfl,trivial⟩
         ·refine AGx (q_b (q_t ?_));exact ⟨((Nr,Ns,Nt):(Int) × (Int) × (Int)),⟨AGk (AT1 I2 Ee),I9⟩,rfl,rfl,rfl,trivial⟩
        rintro ⟨AH2,AH3,AH4⟩ AH5 AH6 ⟨Oe,Og⟩;subst Oe;refine AS3 (AGi (ATj rfl rfl (AGw ?_)));exact ⟨_,(AGk Ny).symm,Og,rfl,rfl,rfl,rfl,trivial⟩
       ·refine AS9 (ATa (ATa (AT9 (q_b (q_t (AS3 (ATj rfl rfl (AGi (AGq ?_)))))))));exact ⟨_,(AGk (Nu _ (AGk (AT1 D9 Ea)).symm)).symm,Ay,rfl,rfl,rfl,rfl,trivial⟩
      ·refine AS9 (ATa (ATa (AT9 (q_t (AGl (AGi (AGi (AGi (ATi (ATi (AGw (AGy (⟨_,Abc,((Nl,Nm,Nn):(Int) × (Int) × (Int)),?_,rfl,?_⟩)))))))))))))
       ·exact AGk (Nq _ (AGk (AT1 D6 D7)).symm)
       ·exact D5
     obtain ⟨⟨Ja,Oh,Aa⟩,Oi,rfl,Oj⟩:=Nk;refine ⟨trivial,?_⟩;subst Oi;refine AGi (AUe rfl rfl (AUe rfl rfl (AUe rfl rfl (ATi (ATi (ATx (AGi (AWe (v:=(.agg #[(.int .i64 Aa),(.int .i64 1),(.int .i64 0),(.int .i64 0),(.int .i64 0)])) (fun _=>by kernel_rfl) (AVt Oj [(.int .i64 0),(.int .i64 0),(.int .i64 0),(.int .i64 0),(.int .i64 0)] Amb fun Ol AH7 AH8 Jc=>AUz [(.int .i64 Aa),(.int .i64 1),(.int .i64 0),(.int .i64 0),(.int .i64 0)] Acf rfl rfl rfl rfl (by simp [isOne]) (Jc.b p0) fun AH9 Om On=>AGq ?_)))))))));have Bq:=Jc.sb p0 On Om rfl;obtain ⟨Oo,Je,Oq⟩:=AGm Nj;refine Aey 8589672480 (fun x:(LiI) × LnA × LnN × LvA × (LiI) × (Int)=>[]) (fun x h'=>( (x.1,x.2.2.2.2.1,x.2.2.2.2.2))=Oo/\Kst h h' (((Bq.L.set 5 (aO2 (cI .i64) 49 2 x.2.1 x.2.2.1 x.2.2.2.1 Ab x.1)).set 4 (aO2 (cI .i64) 49 2 Ad Ae Af Ac x.2.2.2.2.1)).set 0 (aB 58 Ol [(.int .i64 Aa),(.int .i64 x.2.2.2.2.2),(.int .i64 0),(.int .i64 0),(.int .i64 0)]))) ?_ ?_
     ·refine AGo (AGn (AGo (AGn (AGo (AGn (AGl (AGi (AGi (ATm rfl rfl (AGw (⟨_,rfl,fun Ef=>?_,fun Ef=>?_⟩)))))))))))
      ·refine AS9 (ATa (AT9 (q_t (AGl (AVp Ae9 rfl (Agr [(.int .i64 Aa),(.int .i64 2),(.int .i64 0),(.int .i64 0),(.int .i64 0)] AT2 rfl rfl rfl (Bq.b p0) (Nat.le_of_ble_eq_true rfl) rfl fun AIa Ot Ou=>AZf (AGi (AGi (AGi ?_)))))))));have Eg:=Bq.sb p0 Ou Ot rfl;obtain ⟨Ov,Ow,Ox⟩:=AGm (AT0 Je Ef);refine ATc (K':=(fun xr h'=> ∃ x:(LiI) × LnA × LnN × LvA × (LiI),(x.1,x.2.2.2.2)=Ov/\xr= .tuple #[]/\Kst h h' ((Eg.L.set 5 (aO2 (cI .i64) 49 2 x.2.1 x.2.2.1 x.2.2.2.1 Ab x.1)).set 4 (aO2 (cI .i64) 49 2 Ad Ae Af Ac x.2.2.2.2)))) trivial rfl ?_ fun AIb AIc Oy=>?_
       ·refine cwf (l:=[_,_,_]) Tryz.func83 rfl rfl (AGo (AX3 65474 (fun x:(Int) × (LiI) × LnA × LnN × LvA × (LiI)=>(x.1,x.2.1,x.2.2.2.2.2)) ((Oh,Iw,Ix,Iy,Iz,I0):(Int) × (LiI) × LnA × LnN × LvA × (LiI)) Ow (fun x=>[(1,(.int .i64 x.1))]) (fun x=>(Eg.L.set 5 (aO2 (cI .i64) 49 2 x.2.2.1 x.2.2.2.1 x.2.2.2.2.1 Ab x.2.1)).set 4 (aO2 (cI .i64) 49 2 Ad Ae Af Ac x.2.2.2.2.2)) Eg ⟨rfl,trivial⟩ ?_));rintro ⟨AId,Oz,O0,O1,O2,O3⟩ AIe AIf AIg Az Eh O4;unfold AYf at Eh;refine AGn (AGl (AGi (AGi (AY6 rfl rfl (AGq (⟨_,rfl,fun Ei=>?_,fun Ei=>?_⟩))))))
        ·refine AGx (q_t (AGn (AGo (AS3 (AGi (AGi (AVe rfl rfl (AGi ?_))))))));obtain ⟨O5,O6,O7⟩:=AGm (AT0 Eh Ei);refine ATc (K':=(fun xr h'=> ∃ x:(LiI) × LnA × LnN × LvA × (LiI),(x.1,x.2.2.2.2)=O5/\xr= .tuple #[]/\Kst h h' ((Az.L.set 5 (aO2 (cI .i64) 49 2 x.2.1 x.2.2.1 x.2.2.2.1 Ab x.1)).set 4 (aO2 (cI .i64) 49 2 Ad Ae Af Ac x.2.2.2.2)))) trivial rfl ?_ fun AIh AIi O8=>?_
         ·refine cwf (l:=[_,_,_]) Tryz.func130 rfl rfl (AGn (AXm (AGi (AUq rfl (AUv AVa AU1 (Az.b p6) 1 rfl (AGi (AGi (AUq rfl (AUv AVa AU1 (Az.b p6) 1 rfl (AGi (AGi (AUq rfl (AUv AVa AU1 (Az.b p6) 1 rfl (AGi ?_))))))))))))));obtain ⟨AIj,Jf,O9⟩:=AGm O6;refine AUg AS8 ATk (Az.o2 p5) Jf fun _ AIk Pa=>AGi (AUq rfl (AUv AVa AU1 (Az.b p6) 1 rfl (AGi ?_)));obtain ⟨AIl,Jg,Pb⟩:=AGm O9;refine AUg AS8 ATk (Az.o2 p5) Jg fun _ AIm Pc=>Aff AS8 ATk (Az.o2 p5) Pc Pa Jg Jf rfl rfl (fun _=>rfl) (fun _=>rfl) (fun _=>rfl) (fun _ _=>rfl) fun AIn AIo Ej Ek El AIp Pd Pe Pf=>AGq (AGn (AXm ?_));have B8:=Az.uo2 p5 Pe Pd Pf;refine AGi (AUq rfl (AUv AVa AU1 (B8.b p6) 1 rfl (AGi (AUq rfl (AUv Ag8 AU1 (B8.b p6) 2 rfl (Ao6 AZ8 Atn rfl trivial tt2 rfl (B8.o2 p5).isOne (B8.o2 p4).isOne fun AIq AIr Pg Ph Pj=>Aly AZ8 rfl (AGi (AGq (AGo ?_)))))))));have Jh:=B8.nb Ph Pj Pg;refine AY2 4722366412500901036672 Pb (fun x=>[(46,(.int .i64 x.1))]) (fun x=>(Jh.L.set 6 (aO2 (cI .i64) 49 2 Ej Ek El Ab x.2.1)).set 5 (aO2 (cI .i64) 49 2 Ad Ae Af Ac x.2.2)) Jh ⟨rfl,trivial⟩ ?_;rintro ⟨Ji,Pk,Pl⟩ AIs AIt AIu A6 Em Pm;unfold AW1 at Em;refine AGl (ATm rfl rfl (AGq (AGn (⟨_,rfl,fun En=>?_,fun En=>?_⟩))))
          ·refine AGx (q_t (AGn (AGo (AGl ?_))));have Jj:=AT0 Em En;by_cases Eo:Ji=0
           ·refine Alj 0 AZ8 rfl rfl Eo AGj (ATz AU1 rfl ((A6.b p0).cell (i:=0) rfl) (ATx (AGi (AT3 AS8 rfl (A6.o2 p6).rd (AGi (AGq (AGo (AY2 2361178737835195236864 (ifT Jj Eo) (fun x=>[(52,(.int .i64 x.1))]) (fun x=>A6.L.set 6 (aO2 (cI .i64) 49 2 Ej Ek El Ab x.2)) A6 ⟨rfl,trivial⟩ ?_))))))));rintro ⟨Cr,AIv⟩ AIw AIx AIy B9 Ep Pn;unfold AZ9 at Ep;refine AGl (ATm rfl rfl (AGq (AGn (⟨_,rfl,fun Er=>?_,fun Er=>?_⟩))))
            ·refine AGx (q_t (AGn (AGo (AGl ?_))));obtain ⟨AIz,Ct,Po⟩:=AGm (AT0 Ep Er);refine AUg AS8 ATk (B9.o2 p6) Ct fun _ AI0 Cu=>AGw (AXm (AGi (AGi (AGi (AGi (AGi (AGi ?_)))))));obtain ⟨AI1,Pp,Pq⟩:=AGm Po;refine AWi (m:=Cr) AS7 ATd (B9.o2 p6) Cu Ct Pp fun _=>(AGi (AGi ?_));obtain ⟨AI2,Jk,Ps⟩:=AGm Pq;refine AWi (m:=Cr) AS7 ATd (B9.o2 p6) Cu Ct Jk fun _=>AZi (m:=Cr) B9 p6 AS7 ATd Cu Ct Jk (fun _=>rfl) fun _ AI3 Pt=>?_;obtain ⟨AI4,Pu,Pv⟩:=AGm Ps;obtain ⟨AI5,Pw,Px⟩:=AGm Pv;refine AZi (m:=Cr) Pt p6 AS7 ATd Cu Pu Pw (fun _=>rfl) fun _ AI6 Py=>ATf (q_b (q_t (AS3 (ATj rfl rfl (AGi (AGq ?_))))));exact ⟨_,(AGk Px).symm,Py,rfl,trivial⟩
            ·refine AS9 (ATa (ATa (AT9 (q_b (q_t (AS3 (ATj rfl rfl (AGi (AGq ?_)))))))));exact ⟨_,(AGk (Pn _ (AGk (AT1 Ep Er)).symm)).symm,B9,rfl,trivial⟩
           ·have Jl:=ifF Jj Eo;by_cases Es:Ji=1
            ·refine Alj 1 AZ8 rfl rfl Es AGj (ATz AU1 rfl ((A6.b p0).cell (i:=1) rfl) (ATx (AGi (AT3 AS8 rfl (A6.o2 p5).rd (AGi (AGq (AGo (AY2 2361178737835195236864 (ifT Jl Es) (fun x=>[(52,(.int .i64 x.1))]) (fun x=>A6.L.set 5 (aO2 (cI .i64) 49 2 Ad Ae Af Ac x.2)) A6 ⟨rfl,trivial⟩ ?_))))))));rintro ⟨Cv,AI7⟩ AI8 AI9 AJa Ca Et Pz;unfold Aaa at Et;refine AGl (ATm rfl rfl (AGq (AGn (⟨_,rfl,fun Eu=>?_,fun Eu=>?_⟩))))
             ·refine AGx (q_t (AGn (AGo (AGl ?_))));obtain ⟨AJb,Cw,P0⟩:=AGm (AT0 Et Eu);refine AUg AS8 ATk (Ca.o2 p5) Cw fun _ AJc Cx=>AGw (AXm (AGi (AGi (AGi (AGi (AGi (AGi ?_)))))));obtain ⟨AJd,P1,P2⟩:=AGm P0;refine AWi (m:=Cv) AS7 ATd (Ca.o2 p5) Cx Cw P1 fun _=>(AGi (AGi ?_));obtain ⟨AJe,Jm,P3⟩:=AGm P2;refine AWi (m:=Cv) AS7 ATd (Ca.o2 p5) Cx Cw Jm fun _=>AZi (m:=Cv) Ca p5 AS7 ATd Cx Cw Jm (fun _=>rfl) fun _ AJf P4=>?_;obtain ⟨AJg,P5,P6⟩:=AGm P3;obtain ⟨AJh,P7,P8⟩:=AGm P6;refine AZi (m:=Cv) P4 p5 AS7 ATd Cx P5 P7 (fun _=>rfl) fun _ AJi P9=>ATf (q_b (q_t (AS3 (ATj rfl rfl (AGi (AGq ?_))))));exact ⟨_,(AGk P8).symm,P9,rfl,trivial⟩
             ·refine AS9 (ATa (ATa (AT9 (q_b (q_t (AS3 (ATj rfl rfl (AGi (AGq ?_)))))))));exact ⟨_,(AGk (Pz _ (AGk (AT1 Et Eu)).symm)).symm,Ca,rfl,trivial⟩
            ·have Qa:=ifF Jl Es;cases Qa
          ·refine AS9 (ATa (ATa (AT9 (⟨_,AZg,((Pk,Ej,Ek,El,Pl):(LiI) × LnA × LnN × LvA × (LiI)),?_,rfl,?_⟩))))
           ·exact AGk (Pm _ (AGk (AT1 Em En)).symm)
           ·exact A6.sel [1,2,3,4,5,6,7,8] AGj
         obtain ⟨⟨AJj,AJk,AJl,AJm,AJn⟩,Qb,rfl,Qc⟩:=O8;refine ⟨trivial,?_⟩;subst Qb;refine ATf (q_b (q_t (AS3 (AGi (AVe rfl rfl (AGw ?_))))));exact ⟨(_,_,_,_,_,_),(AGk O7).symm,Qc,rfl,trivial⟩
        ·refine AS9 (ATa (ATa (AT9 (⟨_,AZg,((Oz,O0,O1,O2,O3):(LiI) × LnA × LnN × LvA × (LiI)),?_,rfl,?_⟩))))
         ·exact AGk (O4 _ (AGk (AT1 Eh Ei)).symm)
         ·exact Az
       obtain ⟨⟨Qd,Qe,Qf,Qg,Qh⟩,Qi,rfl,Ev⟩:=Oy;refine ⟨trivial,?_⟩;subst Qi;refine AGq (AS3 (AGi (ATj rfl rfl (ATi (ATf (q_b (q_t (AGl (AGi (AGi (AGi ?_)))))))))));obtain ⟨Qj,Qk,Ql⟩:=AGm Ox;refine ATc (K':=(fun xr h'=> ∃ x:(LiI) × LnA × LnN × LvA × (LiI),(x.1,x.2.2.2.2)=Qj/\xr= .tuple #[]/\Kst h h' ((Ev.L.set 5 (aO2 (cI .i64) 49 2 x.2.1 x.2.2.1 x.2.2.2.1 Ab x.1)).set 4 (aO2 (cI .i64) 49 2 Ad Ae Af Ac x.2.2.2.2)))) trivial rfl ?_ fun AJo AJp Qm=>?_
       ·refine cwf (l:=[_,_,_]) Tryz.func83 rfl rfl (AGo (AX3 65474 (fun x:(Int) × (LiI) × LnA × LnN × LvA × (LiI)=>(x.1,x.2.1,x.2.2.2.2.2)) (((w64 (Ja + 1)),Qd,Qe,Qf,Qg,Qh):(Int) × (LiI) × LnA × LnN × LvA × (LiI)) Qk (fun x=>[(1,(.int .i64 x.1))]) (fun x=>(Ev.L.set 5 (aO2 (cI .i64) 49 2 x.2.2.1 x.2.2.2.1 x.2.2.2.2.1 Ab x.2.1)).set 4 (aO2 (cI .i64) 49 2 Ad Ae Af Ac x.2.2.2.2.2)) Ev ⟨rfl,trivial⟩ ?_));rintro ⟨AJq,Qn,Qo,Qp,Qq,Qr⟩ AJr AJs AJt A3 Ew Qs;unfold AYg at Ew;refine AGn (AGl (AGi (AGi (AY6 rfl rfl (AGq (⟨_,rfl,fun Ey=>?_,fun Ey=>?_⟩))))))
        ·refine AGx (q_t (AGn (AGo (AS3 (AGi (AGi (AVe rfl rfl (AGi ?_))))))));obtain ⟨Qt,Qu,Qv⟩:=AGm (AT0 Ew Ey);refine ATc (K':=(fun xr h'=> ∃ x:(LiI) × LnA × LnN × LvA × (LiI),(x.1,x.2.2.2.2)=Qt/\xr= .tuple #[]/\Kst h h' ((A3.L.set 5 (aO2 (cI .i64) 49 2 x.2.1 x.2.2.1 x.2.2.2.1 Ab x.1)).set 4 (aO2 (cI .i64) 49 2 Ad Ae Af Ac x.2.2.2.2)))) trivial rfl ?_ fun AJu AJv Qw=>?_
         ·refine cwf (l:=[_,_,_]) Tryz.func130 rfl rfl (AGn (AXm (AGi (AUq rfl (AUv AVa AU1 (A3.b p6) 1 rfl (AGi (AGi (AUq rfl (AUv AVa AU1 (A3.b p6) 1 rfl (AGi (AGi (AUq rfl (AUv AVa AU1 (A3.b p6) 1 rfl (AGi ?_))))))))))))));obtain ⟨AJw,Jn,Qx⟩:=AGm Qu;refine AUg AS8 ATk (A3.o2 p5) Jn fun _ AJx Qy=>AGi (AUq rfl (AUv AVa AU1 (A3.b p6) 1 rfl (AGi ?_)));obtain ⟨AJy,Jo,Qz⟩:=AGm Qx;refine AUg AS8 ATk (A3.o2 p5) Jo fun _ AJz Q0=>Aff AS8 ATk (A3.o2 p5) Q0 Qy Jo Jn rfl rfl (fun _=>rfl) (fun _=>rfl) (fun _=>rfl) (fun _ _=>rfl) fun AJ0 AJ1 Ez Fa Fb AJ2 Q1 Q2 Q3=>AGq (AGn (AXm ?_));have Cb:=A3.uo2 p5 Q2 Q1 Q3;refine AGi (AUq rfl (AUv AVa AU1 (Cb.b p6) 1 rfl (AGi (AUq rfl (AUv Ag8 AU1 (Cb.b p6) 2 rfl (Ao6 AZ8 Atn rfl trivial tt2 rfl (Cb.o2 p5).isOne (Cb.o2 p4).isOne fun AJ3 AJ4 Q4 Q6 Q7=>Aly AZ8 rfl (AGi (AGq (AGo ?_)))))))));have Jp:=Cb.nb Q6 Q7 Q4;refine AY2 4722366412500901036672 Qz (fun x=>[(46,(.int .i64 x.1))]) (fun x=>(Jp.L.set 6 (aO2 (cI .i64) 49 2 Ez Fa Fb Ab x.2.1)).set 5 (aO2 (cI .i64) 49 2 Ad Ae Af Ac x.2.2)) Jp ⟨rfl,trivial⟩ ?_;rintro ⟨Jq,Q8,Q9⟩ AJ5 AJ6 AJ7 A7 Fc Rc;unfold AW2 at Fc;refine AGl (ATm rfl rfl (AGq (AGn (⟨_,rfl,fun Fd=>?_,fun Fd=>?_⟩))))
          ·refine AGx (q_t (AGn (AGo (AGl ?_))));have Jr:=AT0 Fc Fd;by_cases Fe:Jq=0
           ·refine Alj 0 AZ8 rfl rfl Fe AGj (ATz AU1 rfl ((A7.b p0).cell (i:=0) rfl) (ATx (AGi (AT3 AS8 rfl (A7.o2 p6).rd (AGi (AGq (AGo (AY2 2361178737835195236864 (ifT Jr Fe) (fun x=>[(52,(.int .i64 x.1))]) (fun x=>A7.L.set 6 (aO2 (cI .i64) 49 2 Ez Fa Fb Ab x.2)) A7 ⟨rfl,trivial⟩ ?_))))))));rintro ⟨Cy,AJ8⟩ AJ9 AKa AKb Cd Ff Rd;unfold Aab at Ff;refine AGl (ATm rfl rfl (AGq (AGn (⟨_,rfl,fun Fg=>?_,fun Fg=>?_⟩))))
            ·refine AGx (q_t (AGn (AGo (AGl ?_))));obtain ⟨AKc,Cz,Re⟩:=AGm (AT0 Ff Fg);refine AUg AS8 ATk (Cd.o2 p6) Cz fun _ AKd C0=>AGw (AXm (AGi (AGi (AGi (AGi (AGi (AGi ?_)))))));obtain ⟨AKe,Rf,Rg⟩:=AGm Re;refine AWi (m:=Cy) AS7 ATd (Cd.o2 p6) C0 Cz Rf fun _=>(AGi (AGi ?_));obtain ⟨AKf,Js,Rh⟩:=AGm Rg;refine AWi (m:=Cy) AS7 ATd (Cd.o2 p6) C0 Cz Js fun _=>AZi (m:=Cy) Cd p6 AS7 ATd C0 Cz Js (fun _=>rfl) fun _ AKg Ri=>?_;obtain ⟨AKh,Rj,Rm⟩:=AGm Rh;obtain ⟨AKi,Rn,Ro⟩:=AGm Rm;refine AZi (m:=Cy) Ri p6 AS7 ATd C0 Rj Rn (fun _=>rfl) fun _ AKj Rq=>ATf (q_b (q_t (AS3 (ATj rfl rfl (AGi (AGq ?_))))));exact ⟨_,(AGk Ro).symm,Rq,rfl,trivial⟩
            ·refine AS9 (ATa (ATa (AT9 (q_b (q_t (AS3 (ATj rfl rfl (AGi (AGq ?_)))))))));exact ⟨_,(AGk (Rd _ (AGk (AT1 Ff Fg)).symm)).symm,Cd,rfl,trivial⟩
           ·have Jt:=ifF Jr Fe;by_cases Fh:Jq=1
            ·refine Alj 1 AZ8 rfl rfl Fh AGj (ATz AU1 rfl ((A7.b p0).cell (i:=1) rfl) (ATx (AGi (AT3 AS8 rfl (A7.o2 p5).rd (AGi (AGq (AGo (AY2 2361178737835195236864 (ifT Jt Fh) (fun x=>[(52,(.int .i64 x.1))]) (fun x=>A7.L.set 5 (aO2 (cI .i64) 49 2 Ad Ae Af Ac x.2)) A7 ⟨rfl,trivial⟩ ?_))))))));rintro ⟨C1,AKk⟩ AKl AKm AKn Ce Fi Rr;unfold Aac at Fi;refine AGl (ATm rfl rfl (AGq (AGn (⟨_,rfl,fun Fj=>?_,fun Fj=>?_⟩))))
             ·refine AGx (q_t (AGn (AGo (AGl ?_))));obtain ⟨AKo,C2,Rs⟩:=AGm (AT0 Fi Fj);refine AUg AS8 ATk (Ce.o2 p5) C2 fun _ AKp C3=>AGw (AXm (AGi (AGi (AGi (AGi (AGi (AGi ?_)))))));obtain ⟨AKq,Rt,Ru⟩:=AGm Rs;refine AWi (m:=C1) AS7 ATd (Ce.o2 p5) C3 C2 Rt fun _=>(AGi (AGi ?_));obtain ⟨AKr,Ju,Rv⟩:=AGm Ru;refine AWi (m:=C1) AS7 ATd (Ce.o2 p5) C3 C2 Ju fun _=>AZi (m:=C1) Ce p5 AS7 ATd C3 C2 Ju (fun _=>rfl) fun _ AKs Rw=>?_;obtain ⟨AKt,Rx,Ry⟩:=AGm Rv;obtain ⟨AKu,Rz,R3⟩:=AGm Ry;refine AZi (m:=C1) Rw p5 AS7 ATd C3 Rx Rz (fun _=>rfl) fun _ AKv R4=>ATf (q_b (q_t (AS3 (ATj rfl rfl (AGi (AGq ?_))))));exact ⟨_,(AGk R3).symm,R4,rfl,trivial⟩
             ·refine AS9 (ATa (ATa (AT9 (q_b (q_t (AS3 (ATj rfl rfl (AGi (AGq ?_)))))))));exact ⟨_,(AGk (Rr _ (AGk (AT1 Fi Fj)).symm)).symm,Ce,rfl,trivial⟩
            ·have R5:=ifF Jt Fh;cases R5
          ·refine AS9 (ATa (ATa (AT9 (⟨_,AZg,((Q8,Ez,Fa,Fb,Q9):(LiI) × LnA × LnN × LvA × (LiI)),?_,rfl,?_⟩))))
           ·exact AGk (Rc _ (AGk (AT1 Fc Fd)).symm)
           ·exact A7.sel [1,2,3,4,5,6,7,8] AGj
         obtain ⟨⟨AKw,AKx,AKy,AKz,AK0⟩,R6,rfl,R7⟩:=Qw;refine ⟨trivial,?_⟩;subst R6;refine ATf (q_b (q_t (AS3 (AGi (AVe rfl rfl (AGw ?_))))));exact ⟨(_,_,_,_,_,_),(AGk Qv).symm,R7,rfl,trivial⟩
        ·refine AS9 (ATa (ATa (AT9 (⟨_,AZg,((Qn,Qo,Qp,Qq,Qr):(LiI) × LnA × LnN × LvA × (LiI)),?_,rfl,?_⟩))))
         ·exact AGk (Qs _ (AGk (AT1 Ew Ey)).symm)
         ·exact A3
       obtain ⟨⟨R8,R9,Sa,Sb,Sc⟩,Sd,rfl,Se⟩:=Qm;refine ⟨trivial,?_⟩;subst Sd;refine AGq (AS9 (AT9 (q_t ?_)));exact ⟨((R8,R9,Sa,Sb,Sc,2):(LiI) × LnA × LnN × LvA × (LiI) × (Int)),⟨AGk Ql,Se⟩,trivial⟩
      ·refine AGx (q_t (AS9 (Ar8 AGj (ATa (AT9 (q_t (AGl (AGi (AGi (AGi ?_))))))))));obtain ⟨Sf,Sg,Sh⟩:=AGm (AT1 Je Ef);refine ATc (K':=(fun xr h'=> ∃ x:(LiI) × LnA × LnN × LvA × (LiI),(x.1,x.2.2.2.2)=Sf/\xr= .tuple #[]/\Kst h h' ((Bq.L.set 5 (aO2 (cI .i64) 49 2 x.2.1 x.2.2.1 x.2.2.2.1 Ab x.1)).set 4 (aO2 (cI .i64) 49 2 Ad Ae Af Ac x.2.2.2.2)))) trivial rfl ?_ fun AK1 AK2 Si=>?_
       ·refine cwf (l:=[_,_,_]) Tryz.func83 rfl rfl (AGo (AX3 65474 (fun x:(Int) × (LiI) × LnA × LnN × LvA × (LiI)=>(x.1,x.2.1,x.2.2.2.2.2)) ((Ja,Iw,Ix,Iy,Iz,I0):(Int) × (LiI) × LnA × LnN × LvA × (LiI)) Sg (fun x=>[(1,(.int .i64 x.1))]) (fun x=>(Bq.L.set 5 (aO2 (cI .i64) 49 2 x.2.2.1 x.2.2.2.1 x.2.2.2.2.1 Ab x.2.1)).set 4 (aO2 (cI .i64) 49 2 Ad Ae Af Ac x.2.2.2.2.2)) Bq ⟨rfl,trivial⟩ ?_));rintro ⟨AK3,Sj,Sk,Sm,Sn,So⟩ AK4 AK5 AK6 A4 Fk Sq;unfold AYh at Fk;refine AGn (AGl (AGi (AGi (AY6 rfl rfl (AGq (⟨_,rfl,fun Fl=>?_,fun Fl=>?_⟩))))))
        ·refine AGx (q_t (AGn (AGo (AS3 (AGi (AGi (AVe rfl rfl (AGi ?_))))))));obtain ⟨Sr,Ss,St⟩:=AGm (AT0 Fk Fl);refine ATc (K':=(fun xr h'=> ∃ x:(LiI) × LnA × LnN × LvA × (LiI),(x.1,x.2.2.2.2)=Sr/\xr= .tuple #[]/\Kst h h' ((A4.L.set 5 (aO2 (cI .i64) 49 2 x.2.1 x.2.2.1 x.2.2.2.1 Ab x.1)).set 4 (aO2 (cI .i64) 49 2 Ad Ae Af Ac x.2.2.2.2)))) trivial rfl ?_ fun AK7 AK8 Su=>?_
         ·refine cwf (l:=[_,_,_]) Tryz.func130 rfl rfl (AGn (AXm (AGi (AUq rfl (AUv AVa AU1 (A4.b p6) 1 rfl (AGi (AGi (AUq rfl (AUv AVa AU1 (A4.b p6) 1 rfl (AGi (AGi (AUq rfl (AUv AVa AU1 (A4.b p6) 1 rfl (AGi ?_))))))))))))));obtain ⟨AK9,Jv,Sv⟩:=AGm Ss;refine AUg AS8 ATk (A4.o2 p5) Jv fun _ ALa Sw=>AGi (AUq rfl (AUv AVa AU1 (A4.b p6) 1 rfl (AGi ?_)));obtain ⟨ALb,Jw,Sx⟩:=AGm Sv;refine AUg AS8 ATk (A4.o2 p5) Jw fun _ ALc Sy=>Aff AS8 ATk (A4.o2 p5) Sy Sw Jw Jv rfl rfl (fun _=>rfl) (fun _=>rfl) (fun _=>rfl) (fun _ _=>rfl) fun ALd ALe Fm Fo Fp ALf Sz S5 S7=>AGq (AGn (AXm ?_));have Cf:=A4.uo2 p5 S5 Sz S7;refine AGi (AUq rfl (AUv AVa AU1 (Cf.b p6) 1 rfl (AGi (AUq rfl (AUv Ag8 AU1 (Cf.b p6) 2 rfl (Ao6 AZ8 Atn rfl trivial tt2 rfl (Cf.o2 p5).isOne (Cf.o2 p4).isOne fun ALg ALh Ta Tb Tc=>Aly AZ8 rfl (AGi (AGq (AGo ?_)))))))));have Jx:=Cf.nb Tb Tc Ta;refine AY2 4722366412500901036672 Sx (fun x=>[(46,(.int .i64 x.1))]) (fun x=>(Jx.L.set 6 (aO2 (cI .i64) 49 2 Fm Fo Fp Ab x.2.1)).set 5 (aO2 (cI .i64) 49 2 Ad Ae Af Ac x.2.2)) Jx ⟨rfl,trivial⟩ ?_;rintro ⟨Jy,Td,Te⟩ ALi ALj ALk A8 Fq Tf;unfold AW3 at Fq;refine AGl (ATm rfl rfl (AGq (AGn (⟨_,rfl,fun Fr=>?_,fun Fr=>?_⟩))))
          ·refine AGx (q_t (AGn (AGo (AGl ?_))));have Jz:=AT0 Fq Fr;by_cases Ft:Jy=0
           ·refine Alj 0 AZ8 rfl rfl Ft AGj (ATz AU1 rfl ((A8.b p0).cell (i:=0) rfl) (ATx (AGi (AT3 AS8 rfl (A8.o2 p6).rd (AGi (AGq (AGo (AY2 2361178737835195236864 (ifT Jz Ft) (fun x=>[(52,(.int .i64 x.1))]) (fun x=>A8.L.set 6 (aO2 (cI .i64) 49 2 Fm Fo Fp Ab x.2)) A8 ⟨rfl,trivial⟩ ?_))))))));rintro ⟨C4,ALl⟩ ALm ALn ALo Cg Fu Tg;unfold Aad at Fu;refine AGl (ATm rfl rfl (AGq (AGn (⟨_,rfl,fun Fv=>?_,fun Fv=>?_⟩))))
            ·refine AGx (q_t (AGn (AGo (AGl ?_))));obtain ⟨ALp,C5,Th⟩:=AGm (AT0 Fu Fv);refine AUg AS8 ATk (Cg.o2 p6) C5 fun _ ALq C6=>AGw (AXm (AGi (AGi (AGi (AGi (AGi (AGi ?_)))))));obtain ⟨ALr,Ti,Tj⟩:=AGm Th;refine AWi (m:=C4) AS7 ATd (Cg.o2 p6) C6 C5 Ti fun _=>(AGi (AGi ?_));obtain ⟨ALs,J0,Tk⟩:=AGm Tj;refine AWi (m:=C4) AS7 ATd (Cg.o2 p6) C6 C5 J0 fun _=>AZi (m:=C4) Cg p6 AS7 ATd C6 C5 J0 (fun _=>rfl) fun _ ALt Tl=>?_;obtain ⟨ALu,Tm,Tn⟩:=AGm Tk;obtain ⟨ALv,To,Tp⟩:=AGm Tn;refine AZi (m:=C4) Tl p6 AS7 ATd C6 Tm To (fun _=>rfl) fun _ ALw Tq=>ATf (q_b (q_t (AS3 (ATj rfl rfl (AGi (AGq ?_))))));exact ⟨_,(AGk Tp).symm,Tq,rfl,trivial⟩
            ·refine AS9 (ATa (ATa (AT9 (q_b (q_t (AS3 (ATj rfl rfl (AGi (AGq ?_)))))))));exact ⟨_,(AGk (Tg _ (AGk (AT1 Fu Fv)).symm)).symm,Cg,rfl,trivial⟩
           ·have J1:=ifF Jz Ft;by_cases Fw:Jy=1
            ·refine Alj 1 AZ8 rfl rfl Fw AGj (ATz AU1 rfl ((A8.b p0).cell (i:=1) rfl) (ATx (AGi (AT3 AS8 rfl (A8.o2 p5).rd (AGi (AGq (AGo (AY2 2361178737835195236864 (ifT J1 Fw) (fun x=>[(52,(.int .i64 x.1))]) (fun x=>A8.L.set 5 (aO2 (cI .i64) 49 2 Ad Ae Af Ac x.2)) A8 ⟨rfl,trivial⟩ ?_))))))));rintro ⟨C7,ALx⟩ ALy ALz AL0 Ch Fx Tr;unfold Aae at Fx;refine AGl (ATm rfl rfl (AGq (AGn (⟨_,rfl,fun Fy=>?_,fun Fy=>?_⟩))))
             ·refine AGx (q_t (AGn (AGo (AGl ?_))));obtain ⟨AL1,C8,Ts⟩:=AGm (AT0 Fx Fy);refine AUg AS8 ATk (Ch.o2 p5) C8 fun _ AL2 C9=>AGw (AXm (AGi (AGi (AGi (AGi (AGi (AGi ?_)))))));obtain ⟨AL3,Tt,Tu⟩:=AGm Ts;refine AWi (m:=C7) AS7 ATd (Ch.o2 p5) C9 C8 Tt fun _=>(AGi (AGi ?_));obtain ⟨AL4,J2,Tv⟩:=AGm Tu;refine AWi (m:=C7) AS7 ATd (Ch.o2 p5) C9 C8 J2 fun _=>AZi (m:=C7) Ch p5 AS7 ATd C9 C8 J2 (fun _=>rfl) fun _ AL5 Tw=>?_;obtain ⟨AL6,Tx,Ty⟩:=AGm Tv;obtain ⟨AL7,Tz,T0⟩:=AGm Ty;refine AZi (m:=C7) Tw p5 AS7 ATd C9 Tx Tz (fun _=>rfl) fun _ AL8 T3=>ATf (q_b (q_t (AS3 (ATj rfl rfl (AGi (AGq ?_))))));exact ⟨_,(AGk T0).symm,T3,rfl,trivial⟩
             ·refine AS9 (ATa (ATa (AT9 (q_b (q_t (AS3 (ATj rfl rfl (AGi (AGq ?_)))))))));exact ⟨_,(AGk (Tr _ (AGk (AT1 Fx Fy)).symm)).symm,Ch,rfl,trivial⟩
            ·have T4:=ifF J1 Fw;cases T4
          ·refine AS9 (ATa (ATa (AT9 (⟨_,AZg,((Td,Fm,Fo,Fp,Te):(LiI) × LnA × LnN × LvA × (LiI)),?_,rfl,?_⟩))))
           ·exact AGk (Tf _ (AGk (AT1 Fq Fr)).symm)
           ·exact A8.sel [1,2,3,4,5,6,7,8] AGj
         obtain ⟨⟨AL9,AMa,AMb,AMc,AMd⟩,T5,rfl,T6⟩:=Su;refine ⟨trivial,?_⟩;subst T5;refine ATf (q_b (q_t (AS3 (AGi (AVe rfl rfl (AGw ?_))))));exact ⟨(_,_,_,_,_,_),(AGk St).symm,T6,rfl,trivial⟩
        ·refine AS9 (ATa (ATa (AT9 (⟨_,AZg,((Sj,Sk,Sm,Sn,So):(LiI) × LnA × LnN × LvA × (LiI)),?_,rfl,?_⟩))))
         ·exact AGk (Sq _ (AGk (AT1 Fk Fl)).symm)
         ·exact A4
       obtain ⟨⟨T7,T8,T9,Ua,Ub⟩,Uc,rfl,Ud⟩:=Si;refine ⟨trivial,?_⟩;subst Uc;refine AGq (AS9 (AT9 (q_t ?_)));exact ⟨((T7,T8,T9,Ua,Ub,1):(LiI) × LnA × LnN × LvA × (LiI) × (Int)),⟨AGk Sh,Ud⟩,trivial⟩
     rintro ⟨AMe,Ah,Ai,Aj,AMf,Aw⟩ AMg AMh ⟨Ue,Ci⟩;subst Ue;refine AGl (AGi (AUq rfl (AUv AVa AU1 (Ci.b p6) 1 rfl (AGi ?_))));obtain ⟨AMi,Da,Uf⟩:=AGm Oq;refine AUg AS8 ATk (Ci.o2 p5) Da fun _ AMj Ug=>AGi ?_;obtain ⟨Ak,Uh,Ui⟩:=AGm Uf;refine AWi (m:=A5) AS7 ATd (Ci.o2 p5) Ug Da Uh fun _=>(AGi ?_);obtain ⟨Uj,J3⟩:=ifN Ui;refine Ann rfl rfl Uj (AVp Af8 rfl (Agr [(.int .i64 Aa),(.int .i64 Aw),(.int .i64 (Ak / 2 ^ Int.toNat Aa)),(.int .i64 0),(.int .i64 0)] ATd rfl rfl rfl (Ci.b p0) (Nat.le_of_ble_eq_true rfl) rfl fun AMk Uk Ul=>AGq (AGn (AGl ?_))));have A9:=Ci.sb p0 Ul Uk rfl;refine AUv Ae9 AT2 (A9.b p0) 1 rfl (AV2 rfl rfl (AGq (⟨_,rfl,fun Fz=>?_,fun Fz=>?_⟩)))
     ·refine AGl (AGi (AGi (AGi (AGi (AUv Af8 ATd (A9.b p0) 2 rfl ?_)))));obtain ⟨Um,Un,Uo⟩:=AGm (AT0 J3 Fz);refine ATc (K':=(fun xr h'=> ∃ x:(Int),x=Um/\xr=(.int .i64 x)/\Kst h h' (A9.L))) trivial rfl ?_ fun AMl AMm Up=>?_
      ·refine cwf (l:=[_,_]) Tryz.func85 rfl rfl (AGl (ATx (AGi (Ao3 (κ:= .i64) [(Ak / 2 ^ Int.toNat Aa)] AS7 Ace rfl rfl trivial tt2 rfl rfl rfl rfl fun Uq Ur AMn Us Ut Uu Uv=>?_))));have F4:=A9.no Ut (AXv Uu Uv) Us;refine Amv (c:=(cI .i64)) (el:=2) [[Uq]] [Ur] [([(Ak / 2 ^ Int.toNat Aa)]:List Int)] AS8 Aez rfl rfl trivial tt2 rfl rfl rfl rfl (Aay (F4.o p0).isOne Ak2) ⟨(F4.o p0),trivial⟩ ATw fun AMo AMp AMq Uw Ux Uy=>?_;have F5:=(((F4.a0).grab p0)).lit Ux Uw (by simpa using Uy);refine AGi (AUq rfl (AUv AZ7 AT2 (F5.b p8) 0 rfl ?_));obtain ⟨Uz,U0⟩:=ifN Un;refine AYt rfl rfl Uz ?_;obtain ⟨⟨AMr,AMs⟩,U3,J4⟩:=AGm U0;dsimp only at J4;refine Afg rfl (Ahk (F5.o2 p0).rd U3) fun AMt AMu U8 Va=>?_;obtain ⟨AMv,AMw,AMx,AMy,rfl,Vb,Vc⟩:=Va;refine AGi (AUe rfl rfl (AUe rfl rfl (ATi (ATx (AGi ?_)))));have F6:=F5.no2 U8 Vc Vb;obtain ⟨AMz,J5,Vd⟩:=AGm J4;refine AUg AS8 ATk (F6.o2 p0) J5 fun _ AM0 Ve=>?_;obtain ⟨Vf,Vg,Vh⟩:=AGm Vd;refine AWi (m:=0) AS7 ATd (F6.o2 p0) Ve J5 Vg fun _=>(AGw (AGy (⟨_,AS1,(Vf:(Int)),?_,rfl,?_⟩)))
       ·exact AGk Vh
       ·exact F6.sel [3,4,5,6,7,8,9,10] AGj
      obtain ⟨Vi,Vj,rfl,F7⟩:=Up;refine ⟨trivial,?_⟩;subst Vj;obtain ⟨Vk,Vl,Vm⟩:=AGm Uo;refine ATc (K':=(fun xr h'=> ∃ x:(LiI) × (LiI),(x.1,x.2)=Vk/\xr= .tuple #[]/\Kst h h' ((F7.L.set 5 (aO2 (cI .i64) 49 2 Ah Ai Aj Ab x.1)).set 4 (aO2 (cI .i64) 49 2 Ad Ae Af Ac x.2)))) trivial rfl ?_ fun AM1 AM2 Vn=>?_
      ·refine cwf (l:=[_,_,_,_]) Tryz.func84 rfl rfl (AGl (AGi (ATj rfl rfl (AGw (AGo (AY2 8796093018880 Vl (fun x=>[(8,(.int .i64 x.1))]) (fun x=>(F7.L.set 5 (aO2 (cI .i64) 49 2 Ah Ai Aj Ab x.2.1)).set 4 (aO2 (cI .i64) 49 2 Ad Ae Af Ac x.2.2)) F7 ⟨rfl,trivial⟩ ?_))))));rintro ⟨F8,Vo,Vp⟩ AM3 AM4 AM5 Ba F9 Vs;unfold Aai at F9;refine AGn (AGl (AGi (AGi (AUq rfl (AUv AVa AU1 (Ba.b p6) 1 rfl (AT3 AS8 rfl (Ba.o2 p5).rd (ATm rfl rfl (AGq (⟨_,rfl,fun Ga=>?_,fun Ga=>?_⟩)))))))))
       ·refine AGx (q_t (AGn (AGo (AGl (AGi (AUq rfl (AUv AVa AU1 (Ba.b p6) 1 rfl (AGi ?_))))))));obtain ⟨AM6,J6,Vt⟩:=AGm (AT0 F9 Ga);refine AUg AS8 ATk (Ba.o2 p5) J6 fun _ AM7 Vu=>AGi ?_;obtain ⟨Vv,Vw,Vx⟩:=AGm Vt;refine AWi (m:=A5) AS7 ATd (Ba.o2 p5) Vu J6 Vw fun _=>(AGi ?_);obtain ⟨Vy,Vz⟩:=ifN Vx;refine Ann rfl rfl Vy (AGw (AS3 (AGi (AGi (AGi (AGi (AGi (Aqo rfl (AGi (Abo rfl rfl ?_))))))))));obtain ⟨V1,V4,V5⟩:=AGm Vz;refine ATc (K':=(fun xr h'=> ∃ x:(Int),x=V1/\xr=(.int .i64 x)/\Kst h h' (Ba.L))) trivial rfl ?_ fun AM8 AM9 V6=>?_
        ·refine cwf (l:=[_,_]) Tryz.func132 rfl rfl (AGl (ATx (AGi (AGi (AUq rfl (AUv AZ7 AT2 (Ba.b p6) 0 rfl ?_))))));obtain ⟨V8,V9⟩:=ifN V4;refine AYt rfl rfl V8 (AVe rfl rfl (Aax rfl rfl AGj (AGw (AGy (⟨_,AS1,((AY7 .and .i64 (w64 ((w64 (0 - (Vv / 2 ^ Int.toNat Aa))) * Vi)) (w64 ((w64 (1 * 2 ^ Int.toNat Ag)) - 1))):(Int)),?_,rfl,?_⟩)))))
         ·exact AGk V9
         ·exact Ba
        obtain ⟨Gb,Wa,rfl,Br⟩:=V6;refine ⟨trivial,?_⟩;subst Wa;obtain ⟨Wb,Wc,Wd⟩:=AGm V5;refine ATc (K':=(fun xr h'=> ∃ x:(LiI) × (LiI),(x.1,x.2)=Wb/\xr= .tuple #[]/\Kst h h' ((Br.L.set 5 (aO2 (cI .i64) 49 2 Ah Ai Aj Ab x.1)).set 4 (aO2 (cI .i64) 49 2 Ad Ae Af Ac x.2)))) trivial rfl ?_ fun ANa ANb We=>?_
        ·refine cwf (l:=[_,_,_,_]) Tryz.func131 rfl rfl (AGn (AGn (AXm (AGi (AUq rfl (AUv AVa AU1 (Br.b p6) 1 rfl (AGi (AUq rfl (AUv Ag8 AU1 (Br.b p6) 2 rfl (Ao6 AZ8 Atn rfl trivial tt2 rfl (Br.o2 p5).isOne (Br.o2 p4).isOne fun ANc ANd Wf Wg Wh=>Aly AZ8 rfl (AGi (AGq (AGo ?_)))))))))))));have J7:=Br.nb Wg Wh Wf;refine AY2 4503599610595840 Wc (fun x=>[(24,(.int .i64 x.1))]) (fun x=>(J7.L.set 6 (aO2 (cI .i64) 49 2 Ah Ai Aj Ab x.2.1)).set 5 (aO2 (cI .i64) 49 2 Ad Ae Af Ac x.2.2)) J7 ⟨rfl,trivial⟩ ?_;rintro ⟨J8,ANe,Wi⟩ ANf ANg ANh Ao Gc Wj;unfold AW4 at Gc;refine AGl (ATm rfl rfl (AGq (AGn (⟨_,rfl,fun Gd=>?_,fun Gd=>?_⟩))))
         ·refine AGx (q_t (AGn (AGo (AGl ?_))));have J9:=AT0 Gc Gd;by_cases Ge:J8=0
          ·refine Alj 0 AZ8 rfl rfl Ge AGj (ATz AU1 rfl ((Ao.b p0).cell (i:=0) rfl) (ATx (AGi (AT3 AS8 rfl (Ao.o2 p6).rd (AGi (AGq (AGo (AY2 2251798739945472 (ifT J9 Ge) (fun x=>[(30,(.int .i64 x.1))]) (fun x=>Ao.L.set 6 (aO2 (cI .i64) 49 2 Ah Ai Aj Ab x.2)) Ao ⟨rfl,trivial⟩ ?_))))))));rintro ⟨Gf,ANi⟩ ANj ANk ANl Bc Gg Wk;unfold Aaf at Gg;refine AGl (ATm rfl rfl (AGq (AGn (⟨_,rfl,fun Gh=>?_,fun Gh=>?_⟩))))
           ·refine AGx (q_t (AGn (AGo (AGl ?_))));obtain ⟨ANm,Db,Wl⟩:=AGm (AT0 Gg Gh);refine AUg AS8 ATk (Bc.o2 p6) Db fun _ ANn Gi=>AGw (AXm (AGi (AGi (AGi (AGi (AGi ?_))))));obtain ⟨Wm,Ka,Wn⟩:=AGm Wl;refine AWi (m:=Gf) AS7 ATd (Bc.o2 p6) Gi Db Ka fun _=>(AGi (AGi (AGi ?_)));obtain ⟨Wo,Wp,Wq⟩:=AGm Wn;refine AWi (m:=Gf) AS7 ATd (Bc.o2 p6) Gi Db Wp fun _=>(Abo rfl rfl (ATj rfl rfl ?_));obtain ⟨Wr,Ws,Wt⟩:=AGm Wq;refine ATc (K':=(fun xr h'=> ∃ x:(Int),x=Wr/\xr=(.int .i64 x)/\Kst h h' (Bc.L))) trivial rfl ?_ fun ANo ANp Wu=>?_
            ·refine cwf (l:=[_,_]) Tryz.func132 rfl rfl (AGl (ATx (AGi (AGi (AUq rfl (AUv AZ7 AT2 (Bc.b p7) 0 rfl ?_))))));obtain ⟨Wv,Ww⟩:=ifN Ws;refine AYt rfl rfl Wv (AVe rfl rfl (Aax rfl rfl AGj (AGw (AGy (⟨_,AS1,((AY7 .and .i64 (w64 (Wm + (w64 (Gb * Wo)))) (w64 ((w64 (1 * 2 ^ Int.toNat Ag)) - 1))):(Int)),?_,rfl,?_⟩)))))
             ·exact AGk Ww
             ·exact Bc
            obtain ⟨ANq,Wx,rfl,Wy⟩:=Wu;refine ⟨trivial,?_⟩;subst Wx;refine AZi (m:=Gf) Wy p6 AS7 ATd Gi Db Ka (fun _=>rfl) fun _ ANr Wz=>ATf (q_b (q_t (AS3 (ATj rfl rfl (AGi (AGq ?_))))));exact ⟨_,(AGk Wt).symm,Wz,rfl,trivial⟩
           ·refine AS9 (ATa (ATa (AT9 (q_b (q_t (AS3 (ATj rfl rfl (AGi (AGq ?_)))))))));exact ⟨_,(AGk (Wk _ (AGk (AT1 Gg Gh)).symm)).symm,Bc,rfl,trivial⟩
          ·have Kb:=ifF J9 Ge;by_cases Gj:J8=1
           ·refine Alj 1 AZ8 rfl rfl Gj AGj (ATz AU1 rfl ((Ao.b p0).cell (i:=1) rfl) (ATx (AGi (AT3 AS8 rfl (Ao.o2 p5).rd (AGi (AGq (AGo (AY2 2251798739945472 (ifT Kb Gj) (fun x=>[(30,(.int .i64 x.1))]) (fun x=>Ao.L.set 5 (aO2 (cI .i64) 49 2 Ad Ae Af Ac x.2)) Ao ⟨rfl,trivial⟩ ?_))))))));rintro ⟨Gk,ANs⟩ ANt ANu ANv Be Gl W0;unfold Aag at Gl;refine AGl (ATm rfl rfl (AGq (AGn (⟨_,rfl,fun Gm=>?_,fun Gm=>?_⟩))))
            ·refine AGx (q_t (AGn (AGo (AGl ?_))));obtain ⟨ANw,Dc,W1⟩:=AGm (AT0 Gl Gm);refine AUg AS8 ATk (Be.o2 p5) Dc fun _ ANx Gn=>AGw (AXm (AGi (AGi (AGi (AGi (AGi ?_))))));obtain ⟨W3,Kc,W4⟩:=AGm W1;refine AWi (m:=Gk) AS7 ATd (Be.o2 p5) Gn Dc Kc fun _=>(AGi (AGi (AGi ?_)));obtain ⟨W5,W6,W7⟩:=AGm W4;refine AWi (m:=Gk) AS7 ATd (Be.o2 p5) Gn Dc W6 fun _=>(Abo rfl rfl (ATj rfl rfl ?_));obtain ⟨W8,Xa,Xb⟩:=AGm W7;refine ATc (K':=(fun xr h'=> ∃ x:(Int),x=W8/\xr=(.int .i64 x)/\Kst h h' (Be.L))) trivial rfl ?_ fun ANy ANz Xc=>?_
             ·refine cwf (l:=[_,_]) Tryz.func132 rfl rfl (AGl (ATx (AGi (AGi (AUq rfl (AUv AZ7 AT2 (Be.b p7) 0 rfl ?_))))));obtain ⟨Xd,Xe⟩:=ifN Xa;refine AYt rfl rfl Xd (AVe rfl rfl (Aax rfl rfl AGj (AGw (AGy (⟨_,AS1,((AY7 .and .i64 (w64 (W3 + (w64 (Gb * W5)))) (w64 ((w64 (1 * 2 ^ Int.toNat Ag)) - 1))):(Int)),?_,rfl,?_⟩)))))
              ·exact AGk Xe
              ·exact Be
             obtain ⟨AN0,Xf,rfl,Xg⟩:=Xc;refine ⟨trivial,?_⟩;subst Xf;refine AZi (m:=Gk) Xg p5 AS7 ATd Gn Dc Kc (fun _=>rfl) fun _ AN1 Xh=>ATf (q_b (q_t (AS3 (ATj rfl rfl (AGi (AGq ?_))))));exact ⟨_,(AGk Xb).symm,Xh,rfl,trivial⟩
            ·refine AS9 (ATa (ATa (AT9 (q_b (q_t (AS3 (ATj rfl rfl (AGi (AGq ?_)))))))));exact ⟨_,(AGk (W0 _ (AGk (AT1 Gl Gm)).symm)).symm,Be,rfl,trivial⟩
           ·have Xi:=ifF Kb Gj;cases Xi
         ·refine AS9 (ATa (ATa (AT9 (q_t (AGl (AGi (AUq rfl (AUv AVa AU1 (Ao.b p7) 1 rfl (AGi ?_)))))))));obtain ⟨AN2,Kd,Xj⟩:=AGm (Wj _ (AGk (AT1 Gc Gd)).symm);refine AUg AS8 ATk (Ao.o2 p6) Kd fun _ AN3 Ke=>AUn AS7 rfl ((Ao.o2 p6).rowI Ke Kd) (AGi (AGq (AGo ?_)));have Gp:=Ao.sel [1,2,3,4,5,6,7,8] AGj;dsimp only [AYk,Abf] at Gp;refine AY2 2475880077417839045191413760 Xj (fun x=>[(60,(.int .i64 x.1))]) (fun x=>Gp.L.set 5 (aO2 (cI .i64) 49 2 Ah Ai Aj Ab x.2)) Gp ⟨rfl,trivial⟩ ?_;rintro ⟨AN4,Xk⟩ AN5 Bt AN6 Ap Gq Xl;unfold Aah at Gq;refine AGl (ATm rfl rfl (AGq (AGn (⟨_,rfl,fun Gr=>?_,fun Gr=>?_⟩))))
          ·refine AGx (q_t (AGn (AGo (AGl (AGi ?_)))));obtain ⟨AN7,Xm,Xn⟩:=AGm (AT0 Gq Gr);obtain ⟨Xo,Xp,Xq⟩:=AGm Xn;refine AWi (m:=A5) AS7 ATd (Ap.o2 p5) Ke Xm Xp fun _=>(ATi (AGw (AU8 (fun h'=>UpT [] Bt h') AGv ?_)));have Bf:UpT [] Bt Bt:=UpT.start all_nil;refine AGi (AUq rfl (AVp AVa rfl (AUy AU1 rfl Bf (fun h' hb=>((Ap.b p6).ext hb.ext).cell (i:=1) rfl) (AGi ?_))));obtain ⟨AN8,Bu,Xr⟩:=AGm Xq;refine AVd AS8 rfl (Ap.o2 p5) rfl Bu fun AN9 AOa AOb Xt Xu=>AUy ATk rfl Bf (fun h' hb=>ATl Xu hb.ext) (AGi (AGi (AGi (AUq rfl (AVp AVa rfl (AUy AU1 rfl Bf (fun h' hb=>((Ap.b p6).ext hb.ext).cell (i:=1) rfl) (AGi (AVd AS8 rfl (Ap.o2 p5) rfl Bu fun AOc AOd AOe Xv Xw=>AUy ATk rfl Bf (fun h' hb=>ATl Xw hb.ext) (AGi ?_)))))))));obtain ⟨Xx,Dd,Xy⟩:=AGm Xr;refine AWc (m:=F8) AS7 rfl (Ap.o2 p5) Xv Bu rfl Dd fun AOf Xz=>?_;obtain ⟨AOg,X0,X3⟩:=(Ap.o2 p5).cells Xz Bu Dd;obtain rfl:=X0;refine AUy ATd rfl Bf (fun h' hb=>ATl (X3 0 _ rfl) hb.ext) (AGi (AGi (Abo rfl rfl (ATj rfl rfl ?_))));obtain ⟨X4,X5,X6⟩:=AGm Xy;have X8:UpT [] Bt Bt:=UpT.start all_nil;refine ATc (K':=(fun xr h'=> ∃ x:(Int),x=X4/\xr=(.int .i64 x)/\Kst h h' (Ap.L)/\UpT [] Bt h')) Bf rfl ?_ fun AOh AOi Ya=>?_
           ·refine cwf (l:=[_,_]) Tryz.func132 rfl rfl (AGl (ATx (AGi (AGi (AUq rfl (AVp AZ7 rfl (ATz AT2 rfl ((Ap.b p6).cell (i:=0) rfl) ?_)))))));obtain ⟨Yb,Yc⟩:=ifN X5;refine AYt rfl rfl Yb (AVe rfl rfl (Aax rfl rfl AGj (AGw (AGy (⟨_,AS1,((AY7 .and .i64 (w64 (Xx + (w64 (Gb * Xo)))) (w64 ((w64 (1 * 2 ^ Int.toNat Ag)) - 1))):(Int)),?_,rfl,?_,?_⟩)))))
            ·exact AGk Yc
            ·exact Ap
            ·exact X8
           obtain ⟨Yd,Ye,rfl,Kf,Yf⟩:=Ya;refine ⟨(Bf.then Yf all_nil),?_⟩;subst Ye;refine AWc (m:=F8) AS7 rfl (Ap.o2 p5) Xt Bu rfl Dd fun AOj Yg=>Ac8 (m:=F8) (Ac7 ATd rfl rfl rfl) (Kf.o2 p5) Yg Bu Dd (show ((cI .i64)).rep _ Yd _ from rfl) fun AOk Yh Yi=>ATf (q_b (q_t (AS3 (ATj rfl rfl (AGi (AGq ?_))))));exact ⟨_,(AGk X6).symm,(Kf.uO2 p5 Yi Yh),rfl,trivial⟩
          ·refine AS9 (ATa (ATa (AT9 (⟨_,AZg,((Xk,Wi):(LiI) × (LiI)),?_,rfl,?_⟩))))
           ·exact AGk (Xl _ (AGk (AT1 Gq Gr)).symm)
           ·exact Ap
        obtain ⟨⟨AOl,AOm⟩,Yj,rfl,Yk⟩:=We;refine ⟨trivial,?_⟩;subst Yj;refine ATf (q_b (q_t (AS3 (AGi (ATj rfl rfl (AGw ?_))))));exact ⟨_,(AGk Wd).symm,Yk,rfl,trivial⟩
       ·refine AS9 (ATa (ATa (AT9 (⟨_,AZg,((Vo,Vp):(LiI) × (LiI)),?_,rfl,?_⟩))))
        ·exact AGk (Vs _ (AGk (AT1 F9 Ga)).symm)
        ·exact Ba
      obtain ⟨⟨Yl,Ym⟩,Yn,rfl,Gt⟩:=Vn;refine ⟨trivial,?_⟩;subst Yn;refine AZf (Acb [(.int .i64 Aa),(.int .i64 Aw),(.int .i64 (Ak / 2 ^ Int.toNat Aa)),(.int .i64 0),(.int .i64 0)] Acf rfl rfl (Gt.b p0).agg (AUz [(.int .i64 Aa),(.int .i64 Aw),(.int .i64 (Ak / 2 ^ Int.toNat Aa)),(.int .i64 0),(.int .i64 0)] Acf rfl rfl rfl rfl (by simp [isOne]) (Gt.b p1) fun AOn Yo Yp=>AGq (AGy (ATb ?_))));have Kg:=Gt.sb p1 Yp Yo rfl;refine ⟨_,AU6 Acf rfl rfl (Kg.b p1),((Aa,Aw,(Ak / 2 ^ Int.toNat Aa),0,0,Yl,Ah,Ai,Aj,Ym):(Int) × (Int) × (Int) × (Int) × (Int) × (LiI) × LnA × LnN × LvA × (LiI)),?_,rfl,?_⟩
      ·exact AGk Vm
      ·exact Kg.sel [2,3,4,5,6,7] AGj
     ·refine AGx (q_t (AGl (AGi (AUq rfl (AUv AVa AU1 (A9.b p6) 1 rfl (AGi (AUg AS8 ATk (A9.o2 p5) Da fun _ AOo Yq=>AGi (ATj rfl rfl ?_))))))));obtain ⟨Ax,Yr,Ys⟩:=AGm (AT1 J3 Fz);refine AWi (m:=A5) AS7 ATd (A9.o2 p5) Yq Da Yr fun _=>(AGi ?_);obtain ⟨Yt,Yu⟩:=ifN Ys;refine Ann rfl rfl Yt (AVp Afa rfl (Agr [(.int .i64 Aa),(.int .i64 Aw),(.int .i64 (Ak / 2 ^ Int.toNat Aa)),(.int .i64 (Ax / 2 ^ Int.toNat Aa)),(.int .i64 0)] ATd rfl rfl rfl (A9.b p0) (Nat.le_of_ble_eq_true rfl) rfl fun AOp Yv Yw=>AZf ?_));have Cj:=A9.sb p0 Yw Yv rfl;refine AGi (AUq rfl (AUv AVa AU1 (Cj.b p6) 1 rfl (AGi (ATj rfl rfl ?_))));obtain ⟨AOq,Kh,Yx⟩:=AGm Yu;refine AUg AS8 ATk (Cj.o2 p5) Kh fun _ AOr Yy=>AGi (ATj rfl rfl ?_);obtain ⟨Bb,Yz,Y1⟩:=AGm Yx;refine AWi (m:=(w64 (A5 + 1))) AS7 ATd (Cj.o2 p5) Yy Kh Yz fun _=>(AGi ?_);obtain ⟨Y2,Y3⟩:=ifN Y1;refine Ann rfl rfl Y2 (AVp Ajf rfl (Agr [(.int .i64 Aa),(.int .i64 Aw),(.int .i64 (Ak / 2 ^ Int.toNat Aa)),(.int .i64 (Ax / 2 ^ Int.toNat Aa)),(.int .i64 (Bb / 2 ^ Int.toNat Aa))] ATd rfl rfl rfl (Cj.b p0) (Nat.le_of_ble_eq_true rfl) rfl fun AOs Y4 Y5=>AZf (AGi (AGi (AGi ?_)))));have Gu:=Cj.sb p0 Y5 Y4 rfl;refine Acb [(.int .i64 Aa),(.int .i64 Aw),(.int .i64 (Ak / 2 ^ Int.toNat Aa)),(.int .i64 (Ax / 2 ^ Int.toNat Aa)),(.int .i64 (Bb / 2 ^ Int.toNat Aa))] Acf rfl rfl (Gu.b p0).agg ?_;obtain ⟨Y6,Y7,Y8⟩:=AGm Y3;refine ATc (K':=(fun xr h'=> ∃ x:(LiI) × (LiI),(x.1,x.2)=Y6/\xr= .tuple #[]/\Kst h h' ((Gu.L.set 5 (aO2 (cI .i64) 49 2 Ah Ai Aj Ab x.1)).set 4 (aO2 (cI .i64) 49 2 Ad Ae Af Ac x.2)))) trivial rfl ?_ fun AOt AOu Y9=>?_
      ·refine cwf (l:=[_,_,_,_]) Tryz.func86 rfl rfl (AGl (AYn Gu [(.int .i64 Aa),(.int .i64 Aw),(.int .i64 (Ak / 2 ^ Int.toNat Aa)),(.int .i64 (Ax / 2 ^ Int.toNat Aa)),(.int .i64 (Bb / 2 ^ Int.toNat Aa))] fun AOv AOw AOx Bg=>AZf (AGi (AGi (AUv Af8 ATd (Bg.b p0) 2 rfl (AUv Ajf ATd (Bg.b p0) 4 rfl (Abo rfl rfl (AUv Afa ATd (Bg.b p0) 3 rfl (AUv Afa ATd (Bg.b p0) 3 rfl (Abo rfl rfl (AVe rfl rfl ?_)))))))))));obtain ⟨Za,Zd,Ze⟩:=AGm Y7;refine ATc (K':=(fun xr h'=> ∃ x:(Int),x=Za/\xr=(.int .i64 x)/\Kst h h' (Bg.L))) trivial rfl ?_ fun AOy AOz Zf=>?_
       ·refine cwf (l:=[_,_]) Tryz.func132 rfl rfl (AGl (ATx (AGi (AGi (AUq rfl (AUv AZ7 AT2 (Bg.b p7) 0 rfl ?_))))));obtain ⟨Zg,Zh⟩:=ifN Zd;refine AYt rfl rfl Zg (AVe rfl rfl (Aax rfl rfl AGj (AGw (AGy (⟨_,AS1,((AY7 .and .i64 (w64 ((w64 ((Ak / 2 ^ Int.toNat Aa) * (Bb / 2 ^ Int.toNat Aa))) - (w64 ((Ax / 2 ^ Int.toNat Aa) * (Ax / 2 ^ Int.toNat Aa))))) (w64 ((w64 (1 * 2 ^ Int.toNat Ag)) - 1))):(Int)),?_,rfl,?_⟩)))))
        ·exact AGk Zh
        ·exact Bg
       obtain ⟨Ki,Zj,rfl,Kj⟩:=Zf;refine ⟨trivial,?_⟩;subst Zj;obtain ⟨Zk,Zl,Zm⟩:=AGm Ze;refine ATc (K':=(fun xr h'=> ∃ x:(Int),x=Zk/\xr=(.int .i64 x)/\Kst h h' (Kj.L))) trivial rfl ?_ fun AO0 AO1 Zn=>?_
       ·refine cwf (l:=[_,_]) Tryz.func85 rfl rfl (AGl (ATx (AGi (Ao3 (κ:= .i64) [Ki] AS7 Ace rfl rfl trivial tt2 rfl rfl rfl rfl fun Zo Zp AO2 Zq Zr Zs Zt=>?_))));have Gv:=Kj.no Zr (AXv Zs Zt) Zq;refine Amv (c:=(cI .i64)) (el:=2) [[Zo]] [Zp] [([Ki]:List Int)] AS8 Aez rfl rfl trivial tt2 rfl rfl rfl rfl (Aay (Gv.o p0).isOne Ak2) ⟨(Gv.o p0),trivial⟩ ATw fun AO3 AO4 AO5 Zu Zv Zw=>?_;have Gw:=(((Gv.a0).grab p0)).lit Zv Zu (by simpa using Zw);refine AGi (AUq rfl (AUv AZ7 AT2 (Gw.b p9) 0 rfl ?_));obtain ⟨Zx,Zy⟩:=ifN Zl;refine AYt rfl rfl Zx ?_;obtain ⟨⟨AO6,AO7⟩,Zz,Kk⟩:=AGm Zy;dsimp only at Kk;refine Afg rfl (Ahk (Gw.o2 p0).rd Zz) fun AO8 AO9 Z1 Z4=>?_;obtain ⟨APa,APb,APc,APd,rfl,AAa,AAb⟩:=Z4;refine AGi (AUe rfl rfl (AUe rfl rfl (ATi (ATx (AGi ?_)))));have Gx:=Gw.no2 Z1 AAb AAa;obtain ⟨APe,Kl,AAc⟩:=AGm Kk;refine AUg AS8 ATk (Gx.o2 p0) Kl fun _ APf AAd=>?_;obtain ⟨AAe,AAf,AAg⟩:=AGm AAc;refine AWi (m:=0) AS7 ATd (Gx.o2 p0) AAd Kl AAf fun _=>(AGw (AGy (⟨_,AS1,(AAe:(Int)),?_,rfl,?_⟩)))
        ·exact AGk AAg
        ·exact Gx.sel [3,4,5,6,7,8,9,10,11] AGj
       obtain ⟨Km,AAh,rfl,Kn⟩:=Zn;refine ⟨trivial,?_⟩;subst AAh;refine ATx (AGi (ATj rfl rfl (AGw (AGo (AY2 81129638414606681695786857676288 Zm (fun x=>[(9,(.int .i64 x.1))]) (fun x=>(Kn.L.set 6 (aO2 (cI .i64) 49 2 Ah Ai Aj Ab x.2.1)).set 5 (aO2 (cI .i64) 49 2 Ad Ae Af Ac x.2.2)) Kn ⟨rfl,trivial⟩ ?_)))));rintro ⟨Bv,AAi,AAj⟩ APg APh APi Am Gy AAk;unfold Aap at Gy;refine AGn (AGl (AGi (AGi (AUq rfl (AUv AVa AU1 (Am.b p7) 1 rfl (AT3 AS8 rfl (Am.o2 p6).rd (ATm rfl rfl (AGq (⟨_,rfl,fun Gz=>?_,fun Gz=>?_⟩)))))))))
       ·refine AGx (q_t (AGn (AGo (AGn (AXm (AGi (AUq rfl (AUv AVa AU1 (Am.b p7) 1 rfl (AGi ?_)))))))));obtain ⟨APj,Ko,AAl⟩:=AGm (AT0 Gy Gz);refine AUg AS8 ATk (Am.o2 p6) Ko fun _ APk AAm=>AGi ?_;obtain ⟨Kp,AAn,AAo⟩:=AGm AAl;refine AWi (m:=A5) AS7 ATd (Am.o2 p6) AAm Ko AAn fun _=>(AGi ?_);obtain ⟨AAp,AAq⟩:=ifN AAo;refine Ann rfl rfl AAp (AGi (AUq rfl (AUv AVa AU1 (Am.b p7) 1 rfl (AGi (ATj rfl rfl ?_)))));obtain ⟨APl,Kr,AAr⟩:=AGm AAq;refine AUg AS8 ATk (Am.o2 p6) Kr fun _ APm AAs=>AGi ?_;obtain ⟨Kt,AAt,AAu⟩:=AGm AAr;refine AWi (m:=(w64 (A5 + 1))) AS7 ATd (Am.o2 p6) AAs Kr AAt fun _=>(AGi ?_);obtain ⟨AAv,AAw⟩:=ifN AAu;refine Ann rfl rfl AAv (ATi (ATx (AGi (AUv Afa ATd (Am.b p0) 3 rfl (AGi (Abo rfl rfl (AUv Ajf ATd (Am.b p0) 4 rfl (AGi (Abo rfl rfl (AVe rfl rfl ?_))))))))));obtain ⟨AAx,AAy,AAz⟩:=AGm AAw;refine ATc (K':=(fun xr h'=> ∃ x:(Int),x=AAx/\xr=(.int .i64 x)/\Kst h h' (Am.L))) trivial rfl ?_ fun APn APo AA0=>?_
        ·refine cwf (l:=[_,_]) Tryz.func132 rfl rfl (AGl (ATx (AGi (AGi (AUq rfl (AUv AZ7 AT2 (Am.b p7) 0 rfl ?_))))));obtain ⟨AA1,AA2⟩:=ifN AAy;refine AYt rfl rfl AA1 (AVe rfl rfl (Aax rfl rfl AGj (AGw (AGy (⟨_,AS1,((AY7 .and .i64 (w64 ((w64 ((Ax / 2 ^ Int.toNat Aa) * (Kt / 2 ^ Int.toNat Aa))) - (w64 ((Bb / 2 ^ Int.toNat Aa) * (Kp / 2 ^ Int.toNat Aa))))) (w64 ((w64 (1 * 2 ^ Int.toNat Ag)) - 1))):(Int)),?_,rfl,?_⟩)))))
         ·exact AGk AA2
         ·exact Am
        obtain ⟨AA3,AA4,rfl,Ck⟩:=AA0;refine ⟨trivial,?_⟩;subst AA4;refine AGi (Abo rfl rfl (ATx (AGi (AUv Afa ATd (Ck.b p0) 3 rfl (AGi (Abo rfl rfl (AUv Af8 ATd (Ck.b p0) 2 rfl (AGi (Abo rfl rfl (AVe rfl rfl ?_))))))))));obtain ⟨AA5,AA6,AA7⟩:=AGm AAz;refine ATc (K':=(fun xr h'=> ∃ x:(Int),x=AA5/\xr=(.int .i64 x)/\Kst h h' (Ck.L))) trivial rfl ?_ fun APp APq AA8=>?_
        ·refine cwf (l:=[_,_]) Tryz.func132 rfl rfl (AGl (ATx (AGi (AGi (AUq rfl (AUv AZ7 AT2 (Ck.b p7) 0 rfl ?_))))));obtain ⟨AA9,ABa⟩:=ifN AA6;refine AYt rfl rfl AA9 (AVe rfl rfl (Aax rfl rfl AGj (AGw (AGy (⟨_,AS1,((AY7 .and .i64 (w64 ((w64 ((Ax / 2 ^ Int.toNat Aa) * (Kp / 2 ^ Int.toNat Aa))) - (w64 ((Ak / 2 ^ Int.toNat Aa) * (Kt / 2 ^ Int.toNat Aa))))) (w64 ((w64 (1 * 2 ^ Int.toNat Ag)) - 1))):(Int)),?_,rfl,?_⟩)))))
         ·exact AGk ABa
         ·exact Ck
        obtain ⟨ABb,ABc,rfl,G3⟩:=AA8;refine ⟨trivial,?_⟩;subst ABc;refine AGi (Abo rfl rfl (ATx (AGi (AGi (AGi (AGi (AGi ?_)))))));obtain ⟨ABd,ABe,ABf⟩:=AGm AA7;refine ATc (K':=(fun xr h'=> ∃ x:(Int),x=ABd/\xr=(.int .i64 x)/\Kst h h' (G3.L))) trivial rfl ?_ fun APr APs ABg=>?_
        ·refine cwf (l:=[_,_]) Tryz.func132 rfl rfl (AGl (ATx (AGi (AGi (AUq rfl (AUv AZ7 AT2 (G3.b p7) 0 rfl ?_))))));obtain ⟨ABh,ABi⟩:=ifN ABe;refine AYt rfl rfl ABh (AVe rfl rfl (Aax rfl rfl AGj (AGw (AGy (⟨_,AS1,((AY7 .and .i64 (w64 (AA3 * Km)) (w64 ((w64 (1 * 2 ^ Int.toNat Ag)) - 1))):(Int)),?_,rfl,?_⟩)))))
         ·exact AGk ABi
         ·exact G3
        obtain ⟨G4,ABj,rfl,Bw⟩:=ABg;refine ⟨trivial,?_⟩;subst ABj;obtain ⟨ABk,ABl,ABm⟩:=AGm ABf;refine ATc (K':=(fun xr h'=> ∃ x:(LiI) × (LiI),(x.1,x.2)=ABk/\xr= .tuple #[]/\Kst h h' ((Bw.L.set 6 (aO2 (cI .i64) 49 2 Ah Ai Aj Ab x.1)).set 5 (aO2 (cI .i64) 49 2 Ad Ae Af Ac x.2)))) trivial rfl ?_ fun APt APu ABn=>?_
        ·refine cwf (l:=[_,_,_,_]) Tryz.func131 rfl rfl (AGn (AGn (AXm (AGi (AUq rfl (AUv AVa AU1 (Bw.b p7) 1 rfl (AGi (AUq rfl (AUv Ag8 AU1 (Bw.b p7) 2 rfl (Ao6 AZ8 Atn rfl trivial tt2 rfl (Bw.o2 p6).isOne (Bw.o2 p5).isOne fun APv APw ABo ABp ABq=>Aly AZ8 rfl (AGi (AGq (AGo ?_)))))))))))));have Ku:=Bw.nb ABp ABq ABo;refine AY2 4503599610595840 ABl (fun x=>[(24,(.int .i64 x.1))]) (fun x=>(Ku.L.set 7 (aO2 (cI .i64) 49 2 Ah Ai Aj Ab x.2.1)).set 6 (aO2 (cI .i64) 49 2 Ad Ae Af Ac x.2.2)) Ku ⟨rfl,trivial⟩ ?_;rintro ⟨Kv,APx,ABr⟩ APy APz AP0 Aq G5 ABs;unfold AW5 at G5;refine AGl (ATm rfl rfl (AGq (AGn (⟨_,rfl,fun G6=>?_,fun G6=>?_⟩))))
         ·refine AGx (q_t (AGn (AGo (AGl ?_))));have Kw:=AT0 G5 G6;by_cases G7:Kv=0
          ·refine Alj 0 AZ8 rfl rfl G7 AGj (ATz AU1 rfl ((Aq.b p0).cell (i:=0) rfl) (ATx (AGi (AT3 AS8 rfl (Aq.o2 p7).rd (AGi (AGq (AGo (AY2 2251798739945472 (ifT Kw G7) (fun x=>[(30,(.int .i64 x.1))]) (fun x=>Aq.L.set 7 (aO2 (cI .i64) 49 2 Ah Ai Aj Ab x.2)) Aq ⟨rfl,trivial⟩ ?_))))))));rintro ⟨G8,AP1⟩ AP2 AP3 AP4 Bh G9 ABt;unfold Aaj at G9;refine AGl (ATm rfl rfl (AGq (AGn (⟨_,rfl,fun Hb=>?_,fun Hb=>?_⟩))))
           ·refine AGx (q_t (AGn (AGo (AGl ?_))));obtain ⟨AP5,De,ABu⟩:=AGm (AT0 G9 Hb);refine AUg AS8 ATk (Bh.o2 p7) De fun _ AP6 Hc=>AGw (AXm (AGi (AGi (AGi (AGi (AGi ?_))))));obtain ⟨ABv,Kx,ABw⟩:=AGm ABu;refine AWi (m:=G8) AS7 ATd (Bh.o2 p7) Hc De Kx fun _=>(AGi (AGi (AGi ?_)));obtain ⟨ABx,ABy,ABz⟩:=AGm ABw;refine AWi (m:=G8) AS7 ATd (Bh.o2 p7) Hc De ABy fun _=>(Abo rfl rfl (ATj rfl rfl ?_));obtain ⟨AB0,AB1,AB2⟩:=AGm ABz;refine ATc (K':=(fun xr h'=> ∃ x:(Int),x=AB0/\xr=(.int .i64 x)/\Kst h h' (Bh.L))) trivial rfl ?_ fun AP7 AP8 AB3=>?_
            ·refine cwf (l:=[_,_]) Tryz.func132 rfl rfl (AGl (ATx (AGi (AGi (AUq rfl (AUv AZ7 AT2 (Bh.b p8) 0 rfl ?_))))));obtain ⟨AB4,AB5⟩:=ifN AB1;refine AYt rfl rfl AB4 (AVe rfl rfl (Aax rfl rfl AGj (AGw (AGy (⟨_,AS1,((AY7 .and .i64 (w64 (ABv + (w64 (G4 * ABx)))) (w64 ((w64 (1 * 2 ^ Int.toNat Ag)) - 1))):(Int)),?_,rfl,?_⟩)))))
             ·exact AGk AB5
             ·exact Bh
            obtain ⟨AP9,AB6,rfl,AB7⟩:=AB3;refine ⟨trivial,?_⟩;subst AB6;refine AZi (m:=G8) AB7 p7 AS7 ATd Hc De Kx (fun _=>rfl) fun _ AQa AB8=>ATf (q_b (q_t (AS3 (ATj rfl rfl (AGi (AGq ?_))))));exact ⟨_,(AGk AB2).symm,AB8,rfl,trivial⟩
           ·refine AS9 (ATa (ATa (AT9 (q_b (q_t (AS3 (ATj rfl rfl (AGi (AGq ?_)))))))));exact ⟨_,(AGk (ABt _ (AGk (AT1 G9 Hb)).symm)).symm,Bh,rfl,trivial⟩
          ·have Ky:=ifF Kw G7;by_cases Hd:Kv=1
           ·refine Alj 1 AZ8 rfl rfl Hd AGj (ATz AU1 rfl ((Aq.b p0).cell (i:=1) rfl) (ATx (AGi (AT3 AS8 rfl (Aq.o2 p6).rd (AGi (AGq (AGo (AY2 2251798739945472 (ifT Ky Hd) (fun x=>[(30,(.int .i64 x.1))]) (fun x=>Aq.L.set 6 (aO2 (cI .i64) 49 2 Ad Ae Af Ac x.2)) Aq ⟨rfl,trivial⟩ ?_))))))));rintro ⟨He,AQb⟩ AQc AQd AQe Bi Hf AB9;unfold Aak at Hf;refine AGl (ATm rfl rfl (AGq (AGn (⟨_,rfl,fun Hg=>?_,fun Hg=>?_⟩))))
            ·refine AGx (q_t (AGn (AGo (AGl ?_))));obtain ⟨AQf,Df,ACa⟩:=AGm (AT0 Hf Hg);refine AUg AS8 ATk (Bi.o2 p6) Df fun _ AQg Hh=>AGw (AXm (AGi (AGi (AGi (AGi (AGi ?_))))));obtain ⟨ACb,Kz,ACc⟩:=AGm ACa;refine AWi (m:=He) AS7 ATd (Bi.o2 p6) Hh Df Kz fun _=>(AGi (AGi (AGi ?_)));obtain ⟨ACd,ACe,ACf⟩:=AGm ACc;refine AWi (m:=He) AS7 ATd (Bi.o2 p6) Hh Df ACe fun _=>(Abo rfl rfl (ATj rfl rfl ?_));obtain ⟨ACg,ACh,ACi⟩:=AGm ACf;refine ATc (K':=(fun xr h'=> ∃ x:(Int),x=ACg/\xr=(.int .i64 x)/\Kst h h' (Bi.L))) trivial rfl ?_ fun AQh AQi ACj=>?_
             ·refine cwf (l:=[_,_]) Tryz.func132 rfl rfl (AGl (ATx (AGi (AGi (AUq rfl (AUv AZ7 AT2 (Bi.b p8) 0 rfl ?_))))));obtain ⟨ACk,ACl⟩:=ifN ACh;refine AYt rfl rfl ACk (AVe rfl rfl (Aax rfl rfl AGj (AGw (AGy (⟨_,AS1,((AY7 .and .i64 (w64 (ACb + (w64 (G4 * ACd)))) (w64 ((w64 (1 * 2 ^ Int.toNat Ag)) - 1))):(Int)),?_,rfl,?_⟩)))))
              ·exact AGk ACl
              ·exact Bi
             obtain ⟨AQj,ACm,rfl,ACn⟩:=ACj;refine ⟨trivial,?_⟩;subst ACm;refine AZi (m:=He) ACn p6 AS7 ATd Hh Df Kz (fun _=>rfl) fun _ AQk ACo=>ATf (q_b (q_t (AS3 (ATj rfl rfl (AGi (AGq ?_))))));exact ⟨_,(AGk ACi).symm,ACo,rfl,trivial⟩
            ·refine AS9 (ATa (ATa (AT9 (q_b (q_t (AS3 (ATj rfl rfl (AGi (AGq ?_)))))))));exact ⟨_,(AGk (AB9 _ (AGk (AT1 Hf Hg)).symm)).symm,Bi,rfl,trivial⟩
           ·have ACp:=ifF Ky Hd;cases ACp
         ·refine AS9 (ATa (ATa (AT9 (q_t (AGl (AGi (AUq rfl (AUv AVa AU1 (Aq.b p8) 1 rfl (AGi ?_)))))))));obtain ⟨AQl,K9,ACq⟩:=AGm (ABs _ (AGk (AT1 G5 G6)).symm);refine AUg AS8 ATk (Aq.o2 p7) K9 fun _ AQm La=>AUn AS7 rfl ((Aq.o2 p7).rowI La K9) (AGi (AGq (AGo ?_)));have Hj:=Aq.sel [1,2,3,4,5,6,7,8,9] AGj;dsimp only [AYk,Abf] at Hj;refine AY2 2475880077417839045191413760 ACq (fun x=>[(60,(.int .i64 x.1))]) (fun x=>Hj.L.set 6 (aO2 (cI .i64) 49 2 Ah Ai Aj Ab x.2)) Hj ⟨rfl,trivial⟩ ?_;rintro ⟨AQn,ACr⟩ AQo Bx AQp Ar Hk ACs;unfold Aal at Hk;refine AGl (ATm rfl rfl (AGq (AGn (⟨_,rfl,fun Hl=>?_,fun Hl=>?_⟩))))
          ·refine AGx (q_t (AGn (AGo (AGl (AGi ?_)))));obtain ⟨AQq,ACt,ACu⟩:=AGm (AT0 Hk Hl);obtain ⟨ACv,ACw,ACx⟩:=AGm ACu;refine AWi (m:=A5) AS7 ATd (Ar.o2 p6) La ACt ACw fun _=>(ATi (AGw (AU8 (fun h'=>UpT [] Bx h') AGv ?_)));have Bj:UpT [] Bx Bx:=UpT.start all_nil;refine AGi (AUq rfl (AVp AVa rfl (AUy AU1 rfl Bj (fun h' hb=>((Ar.b p7).ext hb.ext).cell (i:=1) rfl) (AGi ?_))));obtain ⟨AQr,By,ACy⟩:=AGm ACx;refine AVd AS8 rfl (Ar.o2 p6) rfl By fun AQs AQt AQu ACz AC0=>AUy ATk rfl Bj (fun h' hb=>ATl AC0 hb.ext) (AGi (AGi (AGi (AUq rfl (AVp AVa rfl (AUy AU1 rfl Bj (fun h' hb=>((Ar.b p7).ext hb.ext).cell (i:=1) rfl) (AGi (AVd AS8 rfl (Ar.o2 p6) rfl By fun AQv AQw AQx AC1 AC2=>AUy ATk rfl Bj (fun h' hb=>ATl AC2 hb.ext) (AGi ?_)))))))));obtain ⟨AC3,Dg,AC4⟩:=AGm ACy;refine AWc (m:=Bv) AS7 rfl (Ar.o2 p6) AC1 By rfl Dg fun AQy AC5=>?_;obtain ⟨AQz,AC6,AC7⟩:=(Ar.o2 p6).cells AC5 By Dg;obtain rfl:=AC6;refine AUy ATd rfl Bj (fun h' hb=>ATl (AC7 0 _ rfl) hb.ext) (AGi (AGi (Abo rfl rfl (ATj rfl rfl ?_))));obtain ⟨AC8,AC9,ADa⟩:=AGm AC4;have ADb:UpT [] Bx Bx:=UpT.start all_nil;refine ATc (K':=(fun xr h'=> ∃ x:(Int),x=AC8/\xr=(.int .i64 x)/\Kst h h' (Ar.L)/\UpT [] Bx h')) Bj rfl ?_ fun AQ0 AQ1 ADc=>?_
           ·refine cwf (l:=[_,_]) Tryz.func132 rfl rfl (AGl (ATx (AGi (AGi (AUq rfl (AVp AZ7 rfl (ATz AT2 rfl ((Ar.b p7).cell (i:=0) rfl) ?_)))))));obtain ⟨ADd,ADe⟩:=ifN AC9;refine AYt rfl rfl ADd (AVe rfl rfl (Aax rfl rfl AGj (AGw (AGy (⟨_,AS1,((AY7 .and .i64 (w64 (AC3 + (w64 (G4 * ACv)))) (w64 ((w64 (1 * 2 ^ Int.toNat Ag)) - 1))):(Int)),?_,rfl,?_,?_⟩)))))
            ·exact AGk ADe
            ·exact Ar
            ·exact ADb
           obtain ⟨ADf,ADg,rfl,Lb,ADh⟩:=ADc;refine ⟨(Bj.then ADh all_nil),?_⟩;subst ADg;refine AWc (m:=Bv) AS7 rfl (Ar.o2 p6) ACz By rfl Dg fun AQ2 ADi=>Ac8 (m:=Bv) (Ac7 ATd rfl rfl rfl) (Lb.o2 p6) ADi By Dg (show ((cI .i64)).rep _ ADf _ from rfl) fun AQ3 ADj ADk=>ATf (q_b (q_t (AS3 (ATj rfl rfl (AGi (AGq ?_))))));exact ⟨_,(AGk ADa).symm,(Lb.uO2 p6 ADk ADj),rfl,trivial⟩
          ·refine AS9 (ATa (ATa (AT9 (⟨_,AZg,((ACr,ABr):(LiI) × (LiI)),?_,rfl,?_⟩))))
           ·exact AGk (ACs _ (AGk (AT1 Hk Hl)).symm)
           ·exact Ar
        obtain ⟨⟨AQ4,AQ5⟩,ADl,rfl,Hm⟩:=ABn;refine ⟨trivial,?_⟩;subst ADl;refine AGq (AS3 (AGi (AGi (AGi (ATj rfl rfl (AGi (AGi ?_)))))));obtain ⟨ADm,ADn,ADo⟩:=AGm ABm;refine ATc (K':=(fun xr h'=> ∃ x:(Int),x=ADm/\xr=(.int .i64 x)/\Kst h h' (Hm.L))) trivial rfl ?_ fun AQ6 AQ7 ADp=>?_
        ·refine cwf (l:=[_,_]) Tryz.func132 rfl rfl (AGl (ATx (AGi (AGi (AUq rfl (AUv AZ7 AT2 (Hm.b p7) 0 rfl ?_))))));obtain ⟨ADq,ADr⟩:=ifN ADn;refine AYt rfl rfl ADq (AVe rfl rfl (Aax rfl rfl AGj (AGw (AGy (⟨_,AS1,((AY7 .and .i64 (w64 (ABb * Km)) (w64 ((w64 (1 * 2 ^ Int.toNat Ag)) - 1))):(Int)),?_,rfl,?_⟩)))))
         ·exact AGk ADr
         ·exact Hm
        obtain ⟨Hn,ADs,rfl,Bz⟩:=ADp;refine ⟨trivial,?_⟩;subst ADs;obtain ⟨ADt,ADu,ADv⟩:=AGm ADo;refine ATc (K':=(fun xr h'=> ∃ x:(LiI) × (LiI),(x.1,x.2)=ADt/\xr= .tuple #[]/\Kst h h' ((Bz.L.set 6 (aO2 (cI .i64) 49 2 Ah Ai Aj Ab x.1)).set 5 (aO2 (cI .i64) 49 2 Ad Ae Af Ac x.2)))) trivial rfl ?_ fun AQ8 AQ9 ADw=>?_
        ·refine cwf (l:=[_,_,_,_]) Tryz.func131 rfl rfl (AGn (AGn (AXm (AGi (AUq rfl (AUv AVa AU1 (Bz.b p7) 1 rfl (AGi (AUq rfl (AUv Ag8 AU1 (Bz.b p7) 2 rfl (Ao6 AZ8 Atn rfl trivial tt2 rfl (Bz.o2 p6).isOne (Bz.o2 p5).isOne fun ARa ARb ADx ADy ADz=>Aly AZ8 rfl (AGi (AGq (AGo ?_)))))))))))));have Lc:=Bz.nb ADy ADz ADx;refine AY2 4503599610595840 ADu (fun x=>[(24,(.int .i64 x.1))]) (fun x=>(Lc.L.set 7 (aO2 (cI .i64) 49 2 Ah Ai Aj Ab x.2.1)).set 6 (aO2 (cI .i64) 49 2 Ad Ae Af Ac x.2.2)) Lc ⟨rfl,trivial⟩ ?_;rintro ⟨Ld,ARc,AD0⟩ ARd ARe ARf Au Ho AD1;unfold AW6 at Ho;refine AGl (ATm rfl rfl (AGq (AGn (⟨_,rfl,fun Hq=>?_,fun Hq=>?_⟩))))
         ·refine AGx (q_t (AGn (AGo (AGl ?_))));have Le:=AT0 Ho Hq;by_cases Hr:Ld=0
          ·refine Alj 0 AZ8 rfl rfl Hr AGj (ATz AU1 rfl ((Au.b p0).cell (i:=0) rfl) (ATx (AGi (AT3 AS8 rfl (Au.o2 p7).rd (AGi (AGq (AGo (AY2 2251798739945472 (ifT Le Hr) (fun x=>[(30,(.int .i64 x.1))]) (fun x=>Au.L.set 7 (aO2 (cI .i64) 49 2 Ah Ai Aj Ab x.2)) Au ⟨rfl,trivial⟩ ?_))))))));rintro ⟨Hs,ARg⟩ ARh ARi ARj Bl Ht AD2;unfold Aam at Ht;refine AGl (ATm rfl rfl (AGq (AGn (⟨_,rfl,fun Hu=>?_,fun Hu=>?_⟩))))
           ·refine AGx (q_t (AGn (AGo (AGl ?_))));obtain ⟨ARk,Dh,AD3⟩:=AGm (AT0 Ht Hu);refine AUg AS8 ATk (Bl.o2 p7) Dh fun _ ARl Hv=>AGw (AXm (AGi (AGi (AGi (AGi (AGi ?_))))));obtain ⟨AD4,Lf,AD5⟩:=AGm AD3;refine AWi (m:=Hs) AS7 ATd (Bl.o2 p7) Hv Dh Lf fun _=>(AGi (AGi (AGi ?_)));obtain ⟨AD6,AD7,AD8⟩:=AGm AD5;refine AWi (m:=Hs) AS7 ATd (Bl.o2 p7) Hv Dh AD7 fun _=>(Abo rfl rfl (ATj rfl rfl ?_));obtain ⟨AD9,AEa,AEb⟩:=AGm AD8;refine ATc (K':=(fun xr h'=> ∃ x:(Int),x=AD9/\xr=(.int .i64 x)/\Kst h h' (Bl.L))) trivial rfl ?_ fun ARm ARn AEc=>?_
            ·refine cwf (l:=[_,_]) Tryz.func132 rfl rfl (AGl (ATx (AGi (AGi (AUq rfl (AUv AZ7 AT2 (Bl.b p8) 0 rfl ?_))))));obtain ⟨AEd,AEe⟩:=ifN AEa;refine AYt rfl rfl AEd (AVe rfl rfl (Aax rfl rfl AGj (AGw (AGy (⟨_,AS1,((AY7 .and .i64 (w64 (AD4 + (w64 (Hn * AD6)))) (w64 ((w64 (1 * 2 ^ Int.toNat Ag)) - 1))):(Int)),?_,rfl,?_⟩)))))
             ·exact AGk AEe
             ·exact Bl
            obtain ⟨ARo,AEf,rfl,AEg⟩:=AEc;refine ⟨trivial,?_⟩;subst AEf;refine AZi (m:=Hs) AEg p7 AS7 ATd Hv Dh Lf (fun _=>rfl) fun _ ARp AEh=>ATf (q_b (q_t (AS3 (ATj rfl rfl (AGi (AGq ?_))))));exact ⟨_,(AGk AEb).symm,AEh,rfl,trivial⟩
           ·refine AS9 (ATa (ATa (AT9 (q_b (q_t (AS3 (ATj rfl rfl (AGi (AGq ?_)))))))));exact ⟨_,(AGk (AD2 _ (AGk (AT1 Ht Hu)).symm)).symm,Bl,rfl,trivial⟩
          ·have Lg:=ifF Le Hr;by_cases Hw:Ld=1
           ·refine Alj 1 AZ8 rfl rfl Hw AGj (ATz AU1 rfl ((Au.b p0).cell (i:=1) rfl) (ATx (AGi (AT3 AS8 rfl (Au.o2 p6).rd (AGi (AGq (AGo (AY2 2251798739945472 (ifT Lg Hw) (fun x=>[(30,(.int .i64 x.1))]) (fun x=>Au.L.set 6 (aO2 (cI .i64) 49 2 Ad Ae Af Ac x.2)) Au ⟨rfl,trivial⟩ ?_))))))));rintro ⟨Hx,ARq⟩ ARr ARs ARt Bm Hy AEi;unfold Aan at Hy;refine AGl (ATm rfl rfl (AGq (AGn (⟨_,rfl,fun Hz=>?_,fun Hz=>?_⟩))))
            ·refine AGx (q_t (AGn (AGo (AGl ?_))));obtain ⟨ARu,Di,AEj⟩:=AGm (AT0 Hy Hz);refine AUg AS8 ATk (Bm.o2 p6) Di fun _ ARv Ia=>AGw (AXm (AGi (AGi (AGi (AGi (AGi ?_))))));obtain ⟨AEk,Lh,AEl⟩:=AGm AEj;refine AWi (m:=Hx) AS7 ATd (Bm.o2 p6) Ia Di Lh fun _=>(AGi (AGi (AGi ?_)));obtain ⟨AEm,AEn,AEo⟩:=AGm AEl;refine AWi (m:=Hx) AS7 ATd (Bm.o2 p6) Ia Di AEn fun _=>(Abo rfl rfl (ATj rfl rfl ?_));obtain ⟨AEp,AEq,AEr⟩:=AGm AEo;refine ATc (K':=(fun xr h'=> ∃ x:(Int),x=AEp/\xr=(.int .i64 x)/\Kst h h' (Bm.L))) trivial rfl ?_ fun ARw ARx AEs=>?_
             ·refine cwf (l:=[_,_]) Tryz.func132 rfl rfl (AGl (ATx (AGi (AGi (AUq rfl (AUv AZ7 AT2 (Bm.b p8) 0 rfl ?_))))));obtain ⟨AEt,AEu⟩:=ifN AEq;refine AYt rfl rfl AEt (AVe rfl rfl (Aax rfl rfl AGj (AGw (AGy (⟨_,AS1,((AY7 .and .i64 (w64 (AEk + (w64 (Hn * AEm)))) (w64 ((w64 (1 * 2 ^ Int.toNat Ag)) - 1))):(Int)),?_,rfl,?_⟩)))))
              ·exact AGk AEu
              ·exact Bm
             obtain ⟨ARy,AEv,rfl,AEw⟩:=AEs;refine ⟨trivial,?_⟩;subst AEv;refine AZi (m:=Hx) AEw p6 AS7 ATd Ia Di Lh (fun _=>rfl) fun _ ARz AEx=>ATf (q_b (q_t (AS3 (ATj rfl rfl (AGi (AGq ?_))))));exact ⟨_,(AGk AEr).symm,AEx,rfl,trivial⟩
            ·refine AS9 (ATa (ATa (AT9 (q_b (q_t (AS3 (ATj rfl rfl (AGi (AGq ?_)))))))));exact ⟨_,(AGk (AEi _ (AGk (AT1 Hy Hz)).symm)).symm,Bm,rfl,trivial⟩
           ·have AEy:=ifF Lg Hw;cases AEy
         ·refine AS9 (ATa (ATa (AT9 (q_t (AGl (AGi (AUq rfl (AUv AVa AU1 (Au.b p8) 1 rfl (AGi ?_)))))))));obtain ⟨AR0,Li,AEz⟩:=AGm (AD1 _ (AGk (AT1 Ho Hq)).symm);refine AUg AS8 ATk (Au.o2 p7) Li fun _ AR1 Lj=>AUn AS7 rfl ((Au.o2 p7).rowI Lj Li) (AGi (AGq (AGo ?_)));have Ib:=Au.sel [1,2,3,4,5,6,7,8,9] AGj;dsimp only [AYk,Abf] at Ib;refine AY2 2475880077417839045191413760 AEz (fun x=>[(60,(.int .i64 x.1))]) (fun x=>Ib.L.set 6 (aO2 (cI .i64) 49 2 Ah Ai Aj Ab x.2)) Ib ⟨rfl,trivial⟩ ?_;rintro ⟨AR2,AE0⟩ AR3 B1 AR4 Av Ic AE1;unfold Aao at Ic;refine AGl (ATm rfl rfl (AGq (AGn (⟨_,rfl,fun Id=>?_,fun Id=>?_⟩))))
          ·refine AGx (q_t (AGn (AGo (AGl (AGi ?_)))));obtain ⟨AR5,AE2,AE3⟩:=AGm (AT0 Ic Id);obtain ⟨AE4,AE5,AE6⟩:=AGm AE3;refine AWi (m:=(w64 (A5 + 1))) AS7 ATd (Av.o2 p6) Lj AE2 AE5 fun _=>(ATi (AGw (AU8 (fun h'=>UpT [] B1 h') AGv ?_)));have Bn:UpT [] B1 B1:=UpT.start all_nil;refine AGi (AUq rfl (AVp AVa rfl (AUy AU1 rfl Bn (fun h' hb=>((Av.b p7).ext hb.ext).cell (i:=1) rfl) (AGi ?_))));obtain ⟨AR6,B3,AE7⟩:=AGm AE6;refine AVd AS8 rfl (Av.o2 p6) rfl B3 fun AR7 AR8 AR9 AE8 AE9=>AUy ATk rfl Bn (fun h' hb=>ATl AE9 hb.ext) (AGi (AGi (AGi (AUq rfl (AVp AVa rfl (AUy AU1 rfl Bn (fun h' hb=>((Av.b p7).ext hb.ext).cell (i:=1) rfl) (AGi (AVd AS8 rfl (Av.o2 p6) rfl B3 fun ASa ASb ASc AFa AFb=>AUy ATk rfl Bn (fun h' hb=>ATl AFb hb.ext) (AGi ?_)))))))));obtain ⟨AFc,Dj,AFd⟩:=AGm AE7;refine AWc (m:=Bv) AS7 rfl (Av.o2 p6) AFa B3 rfl Dj fun ASd AFe=>?_;obtain ⟨ASe,AFf,AFg⟩:=(Av.o2 p6).cells AFe B3 Dj;obtain rfl:=AFf;refine AUy ATd rfl Bn (fun h' hb=>ATl (AFg 0 _ rfl) hb.ext) (AGi (AGi (Abo rfl rfl (ATj rfl rfl ?_))));obtain ⟨AFh,AFi,AFj⟩:=AGm AFd;have AFk:UpT [] B1 B1:=UpT.start all_nil;refine ATc (K':=(fun xr h'=> ∃ x:(Int),x=AFh/\xr=(.int .i64 x)/\Kst h h' (Av.L)/\UpT [] B1 h')) Bn rfl ?_ fun ASf ASg AFl=>?_
           ·refine cwf (l:=[_,_]) Tryz.func132 rfl rfl (AGl (ATx (AGi (AGi (AUq rfl (AVp AZ7 rfl (ATz AT2 rfl ((Av.b p7).cell (i:=0) rfl) ?_)))))));obtain ⟨AFm,AFn⟩:=ifN AFi;refine AYt rfl rfl AFm (AVe rfl rfl (Aax rfl rfl AGj (AGw (AGy (⟨_,AS1,((AY7 .and .i64 (w64 (AFc + (w64 (Hn * AE4)))) (w64 ((w64 (1 * 2 ^ Int.toNat Ag)) - 1))):(Int)),?_,rfl,?_,?_⟩)))))
            ·exact AGk AFn
            ·exact Av
            ·exact AFk
           obtain ⟨AFo,AFp,rfl,Lk,AFq⟩:=AFl;refine ⟨(Bn.then AFq all_nil),?_⟩;subst AFp;refine AWc (m:=Bv) AS7 rfl (Av.o2 p6) AE8 B3 rfl Dj fun ASh AFr=>Ac8 (m:=Bv) (Ac7 ATd rfl rfl rfl) (Lk.o2 p6) AFr B3 Dj (show ((cI .i64)).rep _ AFo _ from rfl) fun ASi AFs AFt=>ATf (q_b (q_t (AS3 (ATj rfl rfl (AGi (AGq ?_))))));exact ⟨_,(AGk AFj).symm,(Lk.uO2 p6 AFt AFs),rfl,trivial⟩
          ·refine AS9 (ATa (ATa (AT9 (⟨_,AZg,((AE0,AD0):(LiI) × (LiI)),?_,rfl,?_⟩))))
           ·exact AGk (AE1 _ (AGk (AT1 Ic Id)).symm)
           ·exact Av
        obtain ⟨⟨ASj,ASk⟩,AFu,rfl,AFv⟩:=ADw;refine ⟨trivial,?_⟩;subst AFu;refine ATf (q_b (q_t (AS3 (AGi (ATj rfl rfl (AGw ?_))))));exact ⟨_,(AGk ADv).symm,AFv,rfl,trivial⟩
       ·refine AS9 (ATa (ATa (AT9 (⟨_,AZg,((AAi,AAj):(LiI) × (LiI)),?_,rfl,?_⟩))))
        ·exact AGk (AAk _ (AGk (AT1 Gy Gz)).symm)
        ·exact Am.sel [1,2,3,4,5,6,7,8] AGj
      obtain ⟨⟨AFw,AFx⟩,AFy,rfl,Ie⟩:=Y9;refine ⟨trivial,?_⟩;subst AFy;refine AZf (Acb [(.int .i64 Aa),(.int .i64 Aw),(.int .i64 (Ak / 2 ^ Int.toNat Aa)),(.int .i64 (Ax / 2 ^ Int.toNat Aa)),(.int .i64 (Bb / 2 ^ Int.toNat Aa))] Acf rfl rfl (Ie.b p0).agg (AUz [(.int .i64 Aa),(.int .i64 Aw),(.int .i64 (Ak / 2 ^ Int.toNat Aa)),(.int .i64 (Ax / 2 ^ Int.toNat Aa)),(.int .i64 (Bb / 2 ^ Int.toNat Aa))] Acf rfl rfl rfl rfl (by simp [isOne]) (Ie.b p1) fun ASl AFz AF0=>AGq (AGy ?_)));have Ll:=Ie.sb p1 AF0 AFz rfl;refine ⟨_,AU6 Acf rfl rfl (Ll.b p1),((Aa,Aw,(Ak / 2 ^ Int.toNat Aa),(Ax / 2 ^ Int.toNat Aa),(Bb / 2 ^ Int.toNat Aa),AFw,Ah,Ai,Aj,AFx):(Int) × (Int) × (Int) × (Int) × (Int) × (LiI) × LnA × LnN × LvA × (LiI)),?_,rfl,?_⟩
      ·exact AGk Y8
      ·exact Ll.sel [2,3,4,5,6,7] AGj
    obtain ⟨⟨Dk,Dl,Do,Dp,Dq,ASm,ASn,ASo,ASp,ASq⟩,AF1,rfl,AF2⟩:=Ng;refine ⟨trivial,?_⟩;subst AF1;refine AVt AF2 [(.int .i64 0),(.int .i64 0),(.int .i64 0),(.int .i64 0),(.int .i64 0)] Amb fun ASr ASs ASt Lm=>AUz [(.int .i64 Dk),(.int .i64 Dl),(.int .i64 Do),(.int .i64 Dp),(.int .i64 Dq)] Acf rfl rfl rfl rfl (by simp [isOne]) (Lm.b p0) fun ASu AF3 AF4=>AZf ?_;have Dr:=Lm.sb p0 AF4 AF3 rfl;refine AUv Aje Apo (Dr.b p2) 2 rfl (Acb [(.int .i64 Dk),(.int .i64 Dl),(.int .i64 Do),(.int .i64 Dp),(.int .i64 Dq)] Acf rfl rfl (Dr.b p0).agg ?_);obtain ⟨AF5,AF6⟩:=ifN Nf;refine Aep Ama Amb rfl rfl trivial tt2 (fun _=>rfl) rfl (show (Akv).rep _ (Dk,Dl,Do,Dp,Dq) [(.int .i64 Dk),(.int .i64 Dl),(.int .i64 Do),(.int .i64 Dp),(.int .i64 Dq)] from rfl) (Dr.o p1) AGj AF5 fun ASv ASw AF7 ASx AF8 AF9 AGa=>AVp Aje rfl ?_;have If:=Dr.uo p1 AF9 AF8 AGa;refine Agr [(.int .i64 2),(.slice none 0 0),AF7] Apo rfl rfl (If.o p1).isOne (If.b p2) (Nat.le_of_ble_eq_true rfl) rfl fun ASy AGb AGc=>AGq (AS3 ?_);have Lo:=If.sb p2 AGc AGb rfl;refine AGi (AUv Ae9 AT2 (Lo.b p0) 1 rfl (ATj rfl rfl (ATi (ATf (q_b (q_t ?_))))));exact ⟨(_,_,_,_,_,_,_,_,_),(AGk AF6).symm,Lo.sel [1,2,3,4,5,6] AGj,rfl,trivial⟩
   ·refine AS9 (ATa (ATa (AT9 (q_t (AGl (AGi (AUq rfl (AUv Ag8 AU1 (Bo.b p4) 2 rfl (AVp Amr rfl (Agr [(.int .i64 2),Ac,D2] AU1 rfl rfl (Bo.o2 p2).isOne (Bo.b p1) (Nat.le_of_ble_eq_true rfl) rfl fun ASz AGd AGe=>AZf ?_))))))))));have Cm:=Bo.sb p1 AGe AGd rfl;refine Acb [(.int .i64 2),Ac,D2] Af7 rfl rfl (Cm.b p1).agg (AUz [(.int .i64 2),Ac,D2] Af7 rfl rfl rfl rfl (Aay rfl (Aay (Cm.o2 p2).isOne (Aay (Cm.o p0).isOne Ak2))) (Cm.b p5) fun AS0 AGf AGg=>AGw (AGy ?_));have Cn:=Cm.sb p5 AGg AGf rfl;obtain rfl:=AGk (Nb _ (AGk (AT1 D3 D4)).symm);exact ⟨_,Aks Af7 rfl rfl (Cn.b p5),Cn.x,_,_,_,_,_,_,rfl,(Cn.o2 p2),(Cn.o p0),Cn.s.sel [2,0] AGj⟩
end Go.Proofs.YthbndcbclhkepaaGreatDoor
namespace Go.Proofs.YthbndcbclhkepaaGreatDoor
open Go Go.QF
set_option maxRecDepth 100000
theorem Ajl {K:Nat} (hK:K<=30) (z:Int):Eqm (2 ^ K) (w64 z) z:=by
 have h1:Eqm ((2:Int) ^ 64) (w64 z) z:=by
   show w64 z % 2 ^ 64=z % 2 ^ 64
   show IntKind.i64.wrap z % 2 ^ 64=z % 2 ^ 64
   rw [IntKind.wrap_i64];omega
 exact h1.down (AX6 AGh)
abbrev mkE (K:Nat) (z:Int):Option Int:=if 0<=(K:Int)/\(K:Int)<=64 then some (AY7 .and .i64 (w64 z) (w64 ((w64 (1 * 2 ^ Int.toNat (K:Int))) - 1))) else none
theorem mk_val {K:Nat} (hK:K<=30) {z y:Int} (h:Eqm (2 ^ K) z y):mkE K z=some (y % 2 ^ K):=by
 have h1:(2:Int) ^ K<=2 ^ 30:=Adk AGj hK;have h2:0 < (2:Int) ^ K:=Int.pow_pos AGj;have h3:(2:Int) ^ 30=1073741824:=by decide
 unfold mkE;rw [if_pos AGh,Aqk hK,AWk (x:=(2:Int) ^ K - 1) AGh AGh,Aw6 hK];exact congrArg some ((Ajl hK z).trans h)
theorem BB5 {K:Nat} (hK:K<=30) (x c y:Int):Eqm (2 ^ K) (x + w64 (c * y)) (x + c * y):=(Eqm.refl _ x).add (Ajl hK _)
section
variable {fuel n K:Nat}
theorem A10 {i j r:Nat} {c:Int} {M:AS4} (hK:K<=30) (hi:i < n) (hj:j < n) (hr:r < n) (hn:n<=8):
    ((gI (tab n n M) (r:Int)).bind fun x=>(gI x (i:Int)).bind fun y=>(gI x (j:Int)).bind fun z=>(mkE K (y + w64 (c * z))).bind fun e=>some (Sum.inl (β:=List (List Int)) (w64 ((r:Int) + 1),sI (tab n n M) (r:Int) (sI x (i:Int) e))))=some (.inl (((r + 1:Nat):Int),tab n n (AUu M r fun b=>if b=i then (M r i + c * M r j) % 2 ^ K else M r b))):=by
 rw [AY5 (AT7 hr),AY5 (ATv hi),AY5 (ATv hj),mk_val hK (BB5 hK _ _ _)];simp only [Option.bind_some];rw [Aop,Aa3,AWt AGh]
theorem A11 {j l s:Nat} {c:Int} {M:AS4} (hK:K<=30) (hj:j < n) (hl:l < n) (hs:s < n) (hn:n<=8):
    ((gI (tab n n M) (l:Int)).bind fun x=>(gI x (s:Int)).bind fun y=>(gI (tab n n M) (j:Int)).bind fun z=>(gI z (s:Int)).bind fun w=>(mkE K (w + w64 (c * y))).bind fun e=>some (Sum.inl (β:=List (List Int)) (w64 ((s:Int) + 1),sI (tab n n M) (j:Int) (sI z (s:Int) e))))=some (.inl (((s + 1:Nat):Int),tab n n (AUu M j fun b=>if b=s then (M j s + c * M l s) % 2 ^ K else M j b))):=by
 rw [AY5 (AT7 hl),AY5 (ATv hs),AY5 (AT7 hj),AY5 (ATv hs),mk_val hK (BB5 hK _ _ _)];simp only [Option.bind_some];rw [Aop,Aa3,AWt AGh]
theorem Ayo {i j:Nat} {c:Int} {G T:AS4} {R:Int->List (List Int)->List (List Int)->Option ((Int × List (List Int) × List (List Int)) ⊕ (List (List Int) × List (List Int)))} {RG RT:List (List Int)->Int × List (List Int)->Option ((Int × List (List Int)) ⊕ List (List Int))} {RE:List Int->Int->List (List Int)->Option ((Int × List (List Int)) ⊕ List (List Int))} (hK:K<=30) (hn:n<=8) (hi:i < n) (hj:j < n) (hne:j≠i) (hf:100 < fuel)
    (r0:∀ G T,R 0 (tab n n G) T=(iter (RG (tab n n G)) fuel (0,tab n n G)).bind fun e=>some (Sum.inl (1,e,T))) (r1:∀ G T,R 1 G (tab n n T)=(iter (RT (tab n n T)) fuel (0,tab n n T)).bind fun e=>some (Sum.inl (2,G,e))) (r2:∀ G T,R 2 G T=some (.inr (G,T)))
    (rg:∀ (X:AS4) (r:Int) M,RG (tab n n X) (r,M)=if r < n then (gI M r).bind fun x=>(gI x (i:Int)).bind fun y=>(gI x (j:Int)).bind fun z=>(mkE K (y + w64 (c * z))).bind fun e=>some (Sum.inl (w64 (r + 1),sI M r (sI x (i:Int) e))) else some (.inr M))
    (rt:∀ (X:AS4) (r:Int) M,RT (tab n n X) (r,M)=if r < n then (gI M r).bind fun x=>(gI x (i:Int)).bind fun y=>(gI x (j:Int)).bind fun z=>(mkE K (y + w64 (c * z))).bind fun e=>some (Sum.inl (w64 (r + 1),sI M r (sI x (i:Int) e))) else some (.inr M))
    (re:∀ (F:Nat->Int) (s:Int) M,RE (AVk n F) s M=if s < n then (gI M (j:Int)).bind fun x=>(gI x s).bind fun y=>(gI M (i:Int)).bind fun z=>(gI z s).bind fun w=>(mkE K (w + w64 (c * y))).bind fun e=>some (Sum.inl (w64 (s + 1),sI M (i:Int) (sI z s e))) else some (.inr M)):
    ((iter (fun s=>R s.1 s.2.1 s.2.2) fuel (0,tab n n G,tab n n T)).bind (fun ((e1,e2):List (List Int) × List (List Int))=>(gI e1 (j:Int)).bind fun x=>(iter (fun s=>RE x s.1 s.2) fuel (0,e1)).bind fun e=>some (e,e2)))=some (tab n n (Ar4 (2 ^ K) i j c G),tab n n (Anu (2 ^ K) i j c T)):=by
  have Af0:∀ (B:Int × List (List Int)->Option ((Int × List (List Int)) ⊕ List (List Int))) (G:AS4),(∀ (r:Int) M,B (r,M)=if r < n then (gI M r).bind fun x=>(gI x (i:Int)).bind fun y=>(gI x (j:Int)).bind fun z=>(mkE K (y + w64 (c * z))).bind fun e=>some (Sum.inl (w64 (r + 1),sI M r (sI x (i:Int) e))) else some (.inr M))->iter B fuel (0,tab n n G)=some (tab n n (Anu (2 ^ K) i j c G)):=fun B G hB=>A0i (G':=Anu (2 ^ K) i j c G) AGh (fun r M hr hM=>by rw [hB,if_pos AGh,A10 hK hi hj hr hn,A5m hM]) fun X=>by rw [hB,if_neg AGh]
  rw [A5o (fuel:=fuel) (g':=tab n n (Anu (2 ^ K) i j c G)) (t':=tab n n (Anu (2 ^ K) i j c T)) AGh (by dsimp only;rw [r0,Af0 (RG _) _ (rg _)];rfl) (by dsimp only;rw [r1,Af0 (RT _) _ (rt _)];rfl) (by dsimp only;rw [r2])];simp only [Option.bind_some];rw [AY5 (AT7 hj)];unfold Ar4;rw [A77 (j:=i) (g:=fun b=>(Anu (2 ^ K) i j c G i b + c * Anu (2 ^ K) i j c G j b) % 2 ^ K) AGh (fun s M hs hM hMs=>by dsimp only;rw [re,if_pos AGh,A11 hK hi hj hs hn,hMs,hM j s hne]) (fun X=>by dsimp only;rw [re,if_neg AGh]),A78];rfl
theorem Au3 {c:Nat} {G T:AS4} {R:Int->List (List Int)->List (List Int)->Option ((Int × List (List Int) × List (List Int)) ⊕ (List (List Int) × List (List Int)))} {RG RT:List (List Int)->Int × List (List Int)->Option ((Int × List (List Int)) ⊕ List (List Int))} (hn:n<=8) (hc:c + 1 < n) (hf:100 < fuel)
    (r0:∀ G T,R 0 (tab n n G) T=(iter (RG (tab n n G)) fuel (0,tab n n G)).bind fun e=>some (Sum.inl (1,e,T))) (r1:∀ G T,R 1 G (tab n n T)=(iter (RT (tab n n T)) fuel (0,tab n n T)).bind fun e=>some (Sum.inl (2,G,e))) (r2:∀ G T,R 2 G T=some (.inr (G,T)))
    (rg:∀ (X:AS4) (r:Int) M,RG (tab n n X) (r,M)=if r < n then (gI M r).bind fun x=>(gI x ((c + 1:Nat):Int)).bind fun y=>(gI x (c:Int)).bind fun z=>(gI (sI M r (sI x (c:Int) y)) r).bind fun u=>(gI u ((c + 1:Nat):Int)).bind fun w=>some (Sum.inl (w64 (r + 1),sI (sI M r (sI x (c:Int) y)) r (sI u ((c + 1:Nat):Int) z))) else some (.inr M))
    (rt:∀ (X:AS4) (r:Int) M,RT (tab n n X) (r,M)=if r < n then (gI M r).bind fun x=>(gI x ((c + 1:Nat):Int)).bind fun y=>(gI x (c:Int)).bind fun z=>(gI (sI M r (sI x (c:Int) y)) r).bind fun u=>(gI u ((c + 1:Nat):Int)).bind fun w=>some (Sum.inl (w64 (r + 1),sI (sI M r (sI x (c:Int) y)) r (sI u ((c + 1:Nat):Int) z))) else some (.inr M)):
    iter (fun s=>R s.1 s.2.1 s.2.2) fuel (0,sI (sI (tab n n G) (c:Int) (AVk n (G (c + 1)))) ((c + 1:Nat):Int) (AVk n (G c)),tab n n T)=some (tab n n (swG c (c + 1) G),tab n n (swC c (c + 1) T)):=by
  have e0:sI (sI (tab n n G) (c:Int) (AVk n (G (c + 1)))) ((c + 1:Nat):Int) (AVk n (G c))=tab n n fun a b=>G (sw2 c (c + 1) a) b:=by
    rw [Aa3,Aa3];refine Afk fun a b _ _=>?_;rw [ATy,ATy];unfold sw2
    by_cases h1:a=c + 1
    · rw [if_pos h1,if_pos h1]
    · rw [if_neg h1,if_neg h1];by_cases h2:a=c
      · rw [if_pos h2,if_pos h2]
      · rw [if_neg h2,if_neg h2]
  have Af0:∀ (B:Int × List (List Int)->Option ((Int × List (List Int)) ⊕ List (List Int))) (G:AS4),(∀ (r:Int) M,B (r,M)=if r < n then (gI M r).bind fun x=>(gI x ((c + 1:Nat):Int)).bind fun y=>(gI x (c:Int)).bind fun z=>(gI (sI M r (sI x (c:Int) y)) r).bind fun u=>(gI u ((c + 1:Nat):Int)).bind fun w=>some (Sum.inl (w64 (r + 1),sI (sI M r (sI x (c:Int) y)) r (sI u ((c + 1:Nat):Int) z))) else some (.inr M))->iter B fuel (0,tab n n G)=some (tab n n (swC c (c + 1) G)):=fun B G hB=>A0i (G':=swC c (c + 1) G) AGh (fun r M hr hM=>by
    rw [hB,if_pos AGh,A5n hc AGh hr hn];congr 3;exact Aw4 fun b _=>by rw [hM];rfl) fun X=>by rw [hB,if_neg AGh]
  rw [e0];exact A5o AGh (by dsimp only;rw [r0,Af0 (RG _) _ (rg _)];rfl) (by dsimp only;rw [r1,Af0 (RT _) _ (rt _)];rfl) (by dsimp only;rw [r2])
theorem Au4 {f i:Nat} {G T:AS4} {R:Int->List (List Int)->List (List Int)->Option ((Int × List (List Int) × List (List Int)) ⊕ (List (List Int) × List (List Int)))} (hn:n<=8) (hf:f<=i) (hi:i < n) (hfu:100 < fuel)
    (rs:∀ (c:Nat) G T,f<=c->c + 1 < n->R ((c + 1:Nat):Int) (tab n n G) (tab n n T)=some (.inl ((c:Int),tab n n (swG c (c + 1) G),tab n n (swC c (c + 1) T)))) (re:∀ G T,R (f:Int) G T=some (.inr (G,T))):
    iter (fun s=>R s.1 s.2.1 s.2.2) fuel ((i:Int),tab n n G,tab n n T)=some (tab n n (mvG f i G),tab n n (mvC f i T)):=by
  apply ok_eq;refine AUa (fun m s=>s=(((i - m:Nat):Int),tab n n (mvG (i - m) i G),tab n n (mvC (i - m) i T))/\m<=i - f) (i - f) ⟨by rw [Nat.sub_zero,A5p,A5q],Nat.zero_le _⟩ AGh fun m s hm hI=>?_;obtain ⟨rfl,hmf⟩:=hI;dsimp only
  rcases Nat.lt_or_ge m (i - f) with h | h
  · obtain ⟨c,hc⟩:∃ c,i - m=c + 1:=⟨i - m - 1,AGh⟩;rw [hc,rs c _ _ AGh AGh,Aw7 AGh,Aw8 AGh];refine AGp ⟨h,?_,h⟩;rw [show i - (m + 1)=c by omega]
  · rw [show i - m=f by omega,re];exact AGp rfl
end
end Go.Proofs.YthbndcbclhkepaaGreatDoor
namespace Go.Proofs.YthbndcbclhkepaaGreatDoor
open Go Go.QF
set_option maxRecDepth 100000
theorem Ayp {p:Int} (hp:Pr p):PrI p:=⟨hp.1,fun x y h=>by
  have h2:=hp.1
  refine Classical.byContradiction fun hn=>?_
  have hx:x % p≠0:=fun h=>hn (.inl (Int.dvd_of_emod_eq_zero h))
  have hy:y % p≠0:=fun h=>hn (.inr (Int.dvd_of_emod_eq_zero h))
  have h3:=Int.emod_nonneg x (show p≠0 by omega)
  have h4:=Int.emod_lt_of_pos x (show 0 < p by omega)
  have h5:=Int.emod_nonneg y (show p≠0 by omega)
  have h6:=Int.emod_lt_of_pos y (show 0 < p by omega)
  refine A89 hp (a:=x % p) (x:=y % p) AGh AGh AGh AGh ?_
  rw [<- Int.mul_emod]
  exact Int.emod_eq_zero_of_dvd h⟩
theorem Axa {p a:Int} (hp:Pr p) (ha: ¬ p ∣ a):∀ K:Nat,∃ y,p ^ (K + 1) ∣ y * a - 1
  | 0=>by
    have h2:=hp.1;have hx:a % p≠0:=fun h=>ha (Int.dvd_of_emod_eq_zero h);have h3:=Int.emod_nonneg a (show p≠0 by omega);have h4:=Int.emod_lt_of_pos a (show 0 < p by omega);obtain ⟨y,hy⟩:=Aqx hp _ (a % p) (Nat.le_refl _) AGh h4;refine ⟨y,?_⟩;rw [Int.pow_succ,Int.pow_zero,Int.one_mul];refine Aml (m:=p) ?_;show y * a % p=1 % p;rw [Int.emod_eq_of_lt (a:=1) AGj AGh,<- hy];exact ((Eqm.refl p y).mul (Eqm.mod p a)).symm
  | K + 1=>by
    obtain ⟨y,z,hz⟩:=Axa hp ha K;refine ⟨y * (2 - y * a),?_⟩;have e:y * (2 - y * a) * a - 1= -((y * a - 1) * (y * a - 1)):=by grind
    rw [e,hz];refine Int.dvd_neg.2 (Int.dvd_trans (AX6 (b:=K + 1 + (K + 1)) AGh) ?_);rw [Int.pow_add];exact ⟨z * z,by grind⟩
theorem Ato {p a:Int} {K:Nat} (hp:Pr p) (ha: ¬ p ∣ a) (hK:1<=K):∃ y,Aqt (p ^ K) (a % p ^ K) y:=by
 obtain ⟨y,hy⟩:=Axa hp ha (K - 1);rw [show K - 1 + 1=K by omega] at hy;have hq:0 < p ^ K:=Int.pow_pos (by have:=hp.1;omega);refine ⟨y % p ^ K,Int.emod_nonneg _ AGh,Int.emod_lt_of_pos _ hq,?_⟩;exact ((Eqm.mod _ y).mul (Eqm.mod _ a)).trans (Anq hy)
theorem A5t {p u x:Int} {f E:Nat} (hp:PrI p) (hx:x=u * p ^ E) (hu: ¬ p ∣ u) (hf:p ^ f ∣ x):f<=E:=by
 rcases Nat.lt_or_ge E f with h | h
 ·exfalso;have h1:p ^ (E + 1) ∣ u * p ^ E:=hx ▸ Int.dvd_trans (AX6 h) hf;obtain ⟨w,hw⟩:=h1;refine hu ⟨w,Int.eq_of_mul_eq_mul_left (A7w hp E) ?_⟩;rw [Int.pow_succ] at hw;grind
 ·exact h
section
variable {fuel n K k:Nat} {p:Int} {H T G:AS4}
end
theorem BAu {fuel:Nat} {M:List (List Int)} {m:Int} (R:Ar0 M) (hm:2<=m) (Aa:m<=2147483647) (hf:100 < fuel):Aa1 fuel M m=some (tab M.length M.length fun i j=>ent M i j % m,0):=by
 have hM:=Aoo R;unfold Aa1 AU9;have h1:AXs fuel M=some true:=by rw [hM];exact Aw3 R.1.1 R.1.2 hf
 have h2:AVg fuel M m=some (tab M.length M.length fun i j=>ent M i j % m):=by
   conv=>lhs;rw [hM]
   exact A5b R.1.2 hm Aa hf
 rw [h1];simp only [Option.bind_some];rw [if_neg AGj,if_neg AGh,if_neg AGh];simp only [Option.bind_some];rw [if_neg AGj,h2];rfl
end Go.Proofs.YthbndcbclhkepaaGreatDoor
namespace Go.Proofs.YthbndcbclhkepaaGreatDoor
open Go Go.QF
def dB (b:AW8):Int:=if b.2.1=2 then b.2.2.1 * b.2.2.2.2 - b.2.2.2.1 * b.2.2.2.1 else b.2.2.1
def vL:List AW8->Nat
  | []=>0
  | b :: l=>b.2.1.toNat * b.1.toNat + vL l
theorem BAv (L:List AW8) (b:AW8):vL (L ++ [b])=vL L + b.2.1.toNat * b.1.toNat:=by
 induction L with
 | nil=>show _ + 0=0 + _;omega
 | cons c L ih=>show _ + vL (L ++ [b])=_ + vL L + _;omega
theorem A0k {K:Nat}:∀ (m:Nat) {L:List AW8},L.length=m->Apk L->(∀ b∈L,Ayj 2 K b)->((∀ i,i < Ady L->(2:Int) ∣ bm L i i)↔ ∀ b∈L,¬ (b.2.1=1/\b.1=0))
  | 0,L,h,_,_=>by
    rw [List.length_eq_zero_iff] at h;subst h
    exact ⟨fun _ b hb=>(nomatch hb),fun _ i hi=>absurd hi (Nat.not_lt_zero i)⟩
  | m + 1,L,h,hs,hP=>by
    rcases List.eq_nil_or_concat L with rfl | ⟨l,b,rfl⟩
    · simp at h
    · rw [List.concat_eq_append] at h hs hP ⊢
      have hl:Apk l:=fun x hx=>hs x (List.mem_append_left _ hx)
      have hb:=hs b ATw
      have hPb:=hP b ATw
      have ih:=A0k m (L:=l) (by simpa using h) hl fun x hx=>hP x (List.mem_append_left _ hx)
      obtain ⟨e,s,a,c,d⟩:=b
      obtain ⟨⟨he,-⟩,hPb⟩:=hPb
      dsimp only at hb he hPb
      obtain ⟨E,rfl⟩:∃ E:Nat,e=E:=⟨e.toNat,AGh⟩
      rw [Amn]
      dsimp only
      have two:∀ x:Int,1<=E->(2:Int) ∣ 2 ^ E * x:=fun x hE=>⟨2 ^ (E - 1) * x,by rw [<- Int.mul_assoc,<- Int.pow_succ',show E - 1 + 1=E by omega]⟩
      rcases hb with rfl | rfl
      · rw [if_pos rfl] at hPb
        obtain ⟨-,hA,rfl,rfl⟩:=hPb
        have hv:=fun i j=>A5i (E:=E) (a:=a) hl rfl i j
        constructor
        · intro H x hx
          rcases List.mem_append.1 hx with hx | hx
          · refine ih.1 (fun i hi=>?_) x hx
            have:=H i AGh
            rwa [hv,if_neg AGh] at this
          · rw [List.mem_singleton.1 hx]
            rintro ⟨-,h0⟩
            have:=H (Ady l) (by show Ady l < Ady l + 1;omega)
            rw [hv,if_pos ⟨rfl,rfl⟩] at this
            dsimp only at h0
            obtain rfl:E=0:=by omega
            rw [Int.pow_zero,Int.one_mul] at this
            exact hA this
        · intro H i hi
          have hi:i < Ady l + 1:=hi
          rw [hv]
          by_cases h:i=Ady l
          · rw [if_pos ⟨h,h⟩]
            refine two _ ?_
            have:=H _ (List.mem_append_right _ (List.mem_singleton.2 rfl))
            dsimp only at this
            omega
          · rw [if_neg AGh]
            exact ih.2 (fun x hx=>H x (List.mem_append_left _ hx)) i AGh
      · rw [if_neg (show ¬ (2:Int)=1 by decide)] at hPb
        obtain ⟨-,hA,-,hC⟩:=hPb
        have hv:=fun i j=>A5j (E:=E) (a:=a) (b:=c) (c:=d) hl rfl i j
        have hd:∀ x:Int,x % 2=0->(2:Int) ∣ 2 ^ E * x:=fun x hx=>Int.dvd_trans (Int.dvd_of_emod_eq_zero hx) ⟨2 ^ E,Int.mul_comm _ _⟩
        constructor
        · intro H x hx
          rcases List.mem_append.1 hx with hx | hx
          · refine ih.1 (fun i hi=>?_) x hx
            have:=H i AGh
            rwa [hv,if_neg AGh,if_neg AGh,if_neg AGh,if_neg AGh] at this
          · rw [List.mem_singleton.1 hx]
            rintro ⟨h0,-⟩
            exact absurd (show (2:Int)=1 from h0) AGj
        · intro H i hi
          have hi:i < Ady l + 2:=hi
          rw [hv]
          by_cases h:i=Ady l
          · rw [if_pos ⟨h,h⟩];exact hd _ hA
          · rw [if_neg AGh,if_neg AGh,if_neg AGh]
            by_cases h2:i=Ady l + 1
            · rw [if_pos ⟨h2,h2⟩];exact hd _ hC
            · rw [if_neg AGh]
              exact ih.2 (fun x hx=>H x (List.mem_append_left _ hx)) i AGh
theorem A5u {n K:Nat} {H T G:AS4} (S:Eli n K 2 H T G) (hK:1<=K) (hs:∀ i j,i < n->j < n->H i j=H j i) (hG:Asf n (2 ^ K) G):(∀ i,i < n->(2:Int) ∣ G i i)↔ ∀ i,i < n->(2:Int) ∣ H i i:=by
 have d2:(2:Int) ∣ 2 ^ K:=⟨2 ^ (K - 1),by rw [<- Int.pow_succ',show K - 1 + 1=K by omega]⟩;have hdet: ¬ (2:Int) ∣ det n T:=fun h=>S.unit AGj hK (Int.emod_eq_zero_of_dvd h);constructor
 ·intro h i hi;have h1:=(A43 S.c i i hi hi).down d2
  have h2:(2:Int) ∣ det n T * det n T * H i i:=by
    refine Aom h1.symm (Int.dvd_refl _) ?_
    exact Ate (x:=fun a=>Agp n T a i) (fun a b ha hb=>S.sym hs hG ha hb) h
  have hP:PrI 2:=Ayp ⟨AGh,fun d h1 h2=>by omega⟩;rcases hP.2 _ _ h2 with h3 | h3
  ·exact absurd h3 (hP.ndvd_mul hdet hdet)
  ·exact h3
 ·intro h i hi;refine Aom ((S.c i i hi hi).down d2).symm (Int.dvd_refl _) ?_;exact Ate (x:=fun a=>T a i) hs h
theorem A8b {n K E:Nat} {H T G:AS4} {L:List AW8} (S:DS n K H T G L n E) (B:DL K L n E) (hK:1<=K) (hs:∀ i j,i < n->j < n->H i j=H j i):(∀ i,i < n->(2:Int) ∣ H i i)↔ ∀ b∈L,¬ (b.2.1=1/\b.1=0):=by
  rw [<- A5u S.e hK hs S.rg,<- A0k (K:=K) L.length rfl B.sz fun b hb=>?_,B.sum]
  · exact ⟨fun h i hi=>S.w i i hi hi ▸ h i hi,fun h i hi=>S.w i i hi hi ▸ h i hi⟩
  · obtain ⟨i,hi⟩:=List.getElem?_of_mem hb;exact (B.rg i (List.getElem?_eq_some_iff.1 hi).1).1 b hi
end Go.Proofs.YthbndcbclhkepaaGreatDoor
namespace Go.Proofs.YthbndcbclhkepaaGreatDoor
open Go Go.QF
set_option maxRecDepth 100000
section
variable {fuel n K k:Nat} {H T G:AS4} {L:List AW8}
theorem Agm {E:Nat} (u:Int):2 ^ E * u / 2 ^ Int.toNat (E:Int)=u:=by
 rw [Int.toNat_natCast];exact Int.mul_ediv_cancel_left _ (Int.pow_ne_zero AGj)
theorem BAw {x:Int} (hK:K<=30) (hx:0<=x/\x < 2 ^ K) (hf:100 < fuel):Ok (iter (fun s=>Aa7 fuel K x s) fuel 0) fun r=>(x=0/\r=K)∨ ∃ (E:Nat) (u:Int),r=E/\E < K/\x=u * 2 ^ E/\¬ (2:Int) ∣ u:=by
  refine AUa (fun i s=>s=(i:Int)/\i<=K/\(2:Int) ^ i ∣ x) K ⟨rfl,Nat.zero_le _,by rw [Int.pow_zero];exact ⟨x,(Int.one_mul x).symm⟩⟩ AGh fun i s hi hI=>?_;obtain ⟨rfl,hiK,hd⟩:=hI;unfold Aa7;obtain ⟨y,rfl⟩:=hd
  rcases Nat.lt_or_ge i K with h | h
  · rw [if_pos (show (i:Int) < (K:Int) by omega),if_pos (show 0<=(i:Int)/\(i:Int)<=64 by omega),Agm,A8a]
    by_cases h2:y % 2=0
    · rw [if_pos h2];simp only [Option.bind_some];refine AGp ⟨h,AWt AGh,h,?_⟩;obtain ⟨z,rfl⟩:=Int.dvd_of_emod_eq_zero h2;exact ⟨z,by rw [Int.pow_succ];grind⟩
    · rw [if_neg h2];simp only [Option.bind_some];exact AGp (.inr ⟨i,y,rfl,h,Int.mul_comm _ _,fun h3=>h2 (Int.emod_eq_zero_of_dvd h3)⟩)
  · obtain rfl:i=K:=by omega
    rw [if_neg AGh];simp only [Option.bind_some];refine AGp (.inl ⟨?_,rfl⟩);have h0:(0:Int) < 2 ^ i:=Int.pow_pos AGj
    have hy:y=0:=by
      refine Classical.byContradiction fun hy=>?_
      rcases Int.lt_or_le y 1 with h1 | h1
      · have:=Int.mul_le_mul_of_nonneg_left (show y<= -1 by omega) (Int.le_of_lt h0);omega
      · have:=Int.mul_le_mul_of_nonneg_left h1 (Int.le_of_lt h0);omega
    rw [hy,Int.mul_zero]
theorem A5v {d r c l:Nat} (hK:K<=30) (hn:n<=8) (hG:Asf n (2 ^ K) G) (hd:d<=n) (hk:k < n) (hS:QSt n k K G d k r c l) (hf:100 < fuel):
    Ok (iter (fun s=>Aa8 fuel K (tab n n G) (d:Int) s.1 s.2.1 s.2.2.1 s.2.2.2) fuel ((r:Int),(c:Int),(l:Int),(k:Int))) fun ex=> ∃ r c l:Nat,ex=((r:Int),(c:Int),(l:Int))/\QSt n k K G (d + 1) k r c l:=by
  refine AUa (fun j s=> ∃ r c l:Nat,s=((r:Int),(c:Int),(l:Int),((k + j:Nat):Int))/\k + j<=n/\QSt n k K G d (k + j) r c l) (n - k) ⟨r,c,l,rfl,AGh,hS⟩ AGh fun j s hj hI=>?_;obtain ⟨r,c,l,rfl,hjn,hS⟩:=hI;unfold Aa8;dsimp only;have e1:w64 (((k + j:Nat):Int) + (d:Int))=((k + j + d:Nat):Int):=by rw [wk AGh];omega
  rw [e1,AT5];refine ATr (fun h=>?_) fun h=>AGp ⟨r,c,l,rfl,hS.row AGh⟩;have hij:k + j + d < n:=by omega
  have hi:k + j < n:=by omega
  have hlK:l<=K:=by rcases hS with ⟨h1,_⟩ | ⟨h1,_⟩ <;> omega
  rw [AY5 (AT7 hi),AY5 (ATv hij)];obtain ⟨e,he,hcase⟩:=BAw (fuel:=fuel) hK (hG (k + j) (k + j + d) hi hij) hf;rw [he];simp only [Option.bind_some]
  rcases hcase with ⟨h0,rfl⟩ | ⟨E,u,rfl,hEK,hx,hu⟩
  · rw [if_neg AGh];simp only [Option.bind_some];refine AGp ⟨AGh,r,c,l,?_,AGh,hS.old (by rw [h0];exact ⟨0,ATw⟩) fun _=>h0⟩;rw [AWt AGh];rfl
  · by_cases hl:E < l
    · rw [if_pos AGh];simp only [Option.bind_some];refine AGp ⟨AGh,k + j,k + j + d,E,?_,AGh,hS.new AGh hij hx hu hl⟩;rw [AWt AGh];rfl
    · rw [if_neg AGh];simp only [Option.bind_some];refine AGp ⟨AGh,r,c,l,?_,AGh,hS.old (by rw [hx];exact Int.dvd_trans (AX6 AGh) ⟨u,Int.mul_comm _ _⟩) fun h=>by omega⟩;rw [AWt AGh];rfl
theorem A5w (hK:K<=30) (hn:n<=8) (hG:Asf n (2 ^ K) G) (hk:k < n) (hne:∃ e,k + e < n/\G k (k + e)≠0) (hf:100 < fuel):
    Ok (iter (fun s=>Aa9 fuel K (k:Int) (tab n n G) s.1 s.2.1 s.2.2.1 s.2.2.2) fuel ((k:Int),(k:Int),(K:Int),(0:Int))) fun ex=> ∃ r c l:Nat,ex=((r:Int),(c:Int),(l:Int))/\l < K/\PV n k 2 G r c l/\ ∀ a e,k<=a->a + e < n->(2:Int) ^ l ∣ G a (a + e):=by
 refine AUa (fun d s=> ∃ r c l:Nat,s=((r:Int),(c:Int),(l:Int),(d:Int))/\d<=n - k/\QSt n k K G d k r c l) (n - k) ⟨k,k,K,rfl,Nat.zero_le _,QSt.init⟩ AGh fun d s hd hI=>?_;obtain ⟨r,c,l,rfl,hdn,hS⟩:=hI;unfold Aa9;dsimp only;rw [AT5,AWk (x:=(n:Int) - (k:Int)) AGh AGh];refine ATr (fun h=>?_) fun h=>AGp ⟨r,c,l,rfl,?_⟩
 ·refine AGt (A5v hK hn hG AGh hk hS hf) fun ex hex=>?_;obtain ⟨r,c,l,rfl,hS⟩:=hex;refine AGp ⟨AGh,r,c,l,?_,AGh,hS⟩;rw [AWt AGh]
 ·obtain rfl:d=n - k:=by omega
  exact hS.done hk hne
theorem Au5 {i:Nat} (hn:n<=8) (hk:k<=i) (hi:i < n) (hf:100 < fuel):
    iter (fun s=>AYf fuel (k:Int) s.1 s.2.1 s.2.2) fuel ((i:Int),tab n n G,tab n n T)=some (tab n n (mvG k i G),tab n n (mvC k i T))/\
    iter (fun s=>AYg fuel (k:Int) s.1 s.2.1 s.2.2) fuel ((i:Int),tab n n G,tab n n T)=some (tab n n (mvG k i G),tab n n (mvC k i T))/\
    iter (fun s=>AYh fuel (k:Int) s.1 s.2.1 s.2.2) fuel ((i:Int),tab n n G,tab n n T)=some (tab n n (mvG k i G),tab n n (mvC k i T)):=by
  have e1:∀ c:Nat,c + 1 < n->w64 (((c + 1:Nat):Int) - 1)=(c:Int):=fun c hc=>by rw [wk AGh];omega
  refine ⟨Au4 hn hk hi hf (fun c G T hc hcn=>?_) fun G T=>?_,Au4 hn hk hi hf (fun c G T hc hcn=>?_) fun G T=>?_,Au4 hn hk hi hf (fun c G T hc hcn=>?_) fun G T=>?_⟩
  · unfold AYf;rw [if_pos AGh,AY5 (AT7 hcn),e1 c hcn,AY5 (AT7 (show c < n by omega)),Au3 (R:=AW1 fuel ((c + 1:Nat):Int)) (RG:=fun X s=>AZ9 fuel ((c + 1:Nat):Int) X s.1 s.2) (RT:=fun X s=>Aaa fuel ((c + 1:Nat):Int) X s.1 s.2) hn hcn hf (fun G T=>by unfold AW1;rfl) (fun G T=>by unfold AW1;rfl) (fun G T=>by unfold AW1;rfl) (fun X r M=>by unfold AZ9;dsimp only;rw [AT5,e1 c hcn]) fun X r M=>by unfold Aaa;dsimp only;rw [AT5,e1 c hcn]];rfl
  · unfold AYf;rw [if_neg AGh]
  · unfold AYg;rw [if_pos AGh,AY5 (AT7 hcn),e1 c hcn,AY5 (AT7 (show c < n by omega)),Au3 (R:=AW2 fuel ((c + 1:Nat):Int)) (RG:=fun X s=>Aab fuel ((c + 1:Nat):Int) X s.1 s.2) (RT:=fun X s=>Aac fuel ((c + 1:Nat):Int) X s.1 s.2) hn hcn hf (fun G T=>by unfold AW2;rfl) (fun G T=>by unfold AW2;rfl) (fun G T=>by unfold AW2;rfl) (fun X r M=>by unfold Aab;dsimp only;rw [AT5,e1 c hcn]) fun X r M=>by unfold Aac;dsimp only;rw [AT5,e1 c hcn]];rfl
  · unfold AYg;rw [if_neg AGh]
  · unfold AYh;rw [if_pos AGh,AY5 (AT7 hcn),e1 c hcn,AY5 (AT7 (show c < n by omega)),Au3 (R:=AW3 fuel ((c + 1:Nat):Int)) (RG:=fun X s=>Aad fuel ((c + 1:Nat):Int) X s.1 s.2) (RT:=fun X s=>Aae fuel ((c + 1:Nat):Int) X s.1 s.2) hn hcn hf (fun G T=>by unfold AW3;rfl) (fun G T=>by unfold AW3;rfl) (fun G T=>by unfold AW3;rfl) (fun X r M=>by unfold Aad;dsimp only;rw [AT5,e1 c hcn]) fun X r M=>by unfold Aae;dsimp only;rw [AT5,e1 c hcn]];rfl
  · unfold AYh;rw [if_neg AGh]
end
end Go.Proofs.YthbndcbclhkepaaGreatDoor
namespace Go.Proofs.YthbndcbclhkepaaGreatDoor
open Go Go.QF
set_option maxRecDepth 100000
section
variable {fuel n K k E:Nat} {H T G:AS4} {L:List AW8}
theorem DS.move {i:Nat} (S:DS n K H T G L k E) (hi:i < n):∀ (m f:Nat),i=f + m->k<=f->DS n K H (mvC f i T) (mvG f i G) L k E
  | 0,f,h,hf=>by
    obtain rfl:i=f:=h
    rw [A5q,A5p];exact S
  | m + 1,f,h,hf=>by
    have:=(DS.move S hi m (f + 1) AGh AGh).swap hf AGh (show k<=f + 1 by omega) AGh
    rwa [Aw8 AGh,Aw7 AGh] at this
theorem A5x {q P A y v c:Int} (hc:Eqm q c (-y * v)) (hv:Eqm q (v * A) 1):(P * y + c * (P * A)) % q=0:=by
 have one:Eqm q (P * y - P * y * (v * A)) 0:=by
   have:=(Eqm.refl q (P * y)).sub ((Eqm.refl q (P * y)).mul hv)
   rwa [Int.mul_one,Int.sub_self] at this
 exact Eqm.zero (((Eqm.refl _ _).add (hc.mul (Eqm.refl _ _))).trans (Eqm.trans (Eqm.of_eq (by grind)) one))
theorem A5y {A v:Int} (S:DS n K H T G L k E) (hK:K<=30) (hE:E<=K) (hn:n<=8) (hk:k < n) (hD:G k k=2 ^ E * A) (hv:Eqm (2 ^ K) (v * A) 1) (hf:100 < fuel):
    Ok (iter (fun s=>Aai fuel K (k:Int) E v s.1 s.2.1 s.2.2) fuel (((k + 1:Nat):Int),tab n n G,tab n n T)) fun ex=> ∃ T' G',ex=(tab n n G',tab n n T')/\DS n K H T' G' L k E/\G' k k=2 ^ E * A/\ ∀ j,k < j->j < n->G' k j=0:=by
  refine AUa (fun i s=> ∃ T' G',s=(((k + 1 + i:Nat):Int),tab n n G',tab n n T')/\k + 1 + i<=n/\DS n K H T' G' L k E/\G' k k=2 ^ E * A/\ ∀ j,k < j->j < k + 1 + i->G' k j=0) (n - (k + 1)) ⟨T,G,rfl,AGh,S,hD,fun j h1 h2=>by omega⟩ AGh fun i s hi hI=>?_;obtain ⟨T',G',rfl,hin,S',hd,hz⟩:=hI;unfold Aai;dsimp only;rw [AT5];refine ATr (fun h=>?_) fun h=>AGp ⟨T',G',rfl,S',hd,fun j h1 h2=>hz j h1 AGh⟩;obtain ⟨j,hj⟩:∃ j,j=k + 1 + i:=⟨_,rfl⟩;rw [<- hj] at h hin hz ⊢;have hjn:j < n:=by omega
  obtain ⟨y,hy⟩:=S'.fl k j (Nat.le_refl k) hk AGh hjn;rw [AY5 (AT7 hk),AY5 (ATv hjn),if_pos (show 0<=(E:Int)/\(E:Int)<=64 by omega),hy,Agm];have hc:mkE K (w64 (0 - y) * v)=some ((-y * v) % 2 ^ K):=mk_val hK ((((Ajl hK _).trans (Eqm.of_eq (Int.zero_sub y))).mul (Eqm.refl _ v)));unfold mkE at hc;rw [hc];simp only [Option.bind_some];obtain ⟨c,hce⟩:∃ c,c=(-y * v) % 2 ^ K:=⟨_,rfl⟩;rw [<- hce,Ayo (R:=AW4 fuel K (k:Int) (j:Int) c) (RG:=fun X s=>Aaf fuel K (k:Int) (j:Int) c X s.1 s.2) (RT:=fun X s=>Aag fuel K (k:Int) (j:Int) c X s.1 s.2) (RE:=Aah fuel K (k:Int) (j:Int) c) hK hn hjn hk AGh hf (fun G T=>by unfold AW4;rfl) (fun G T=>by unfold AW4;rfl) (fun G T=>by unfold AW4;rfl) (fun X r M=>by unfold Aaf;dsimp only;rw [AT5]) (fun X r M=>by unfold Aag;dsimp only;rw [AT5]) fun F s M=>by unfold Aah;rw [AUh]];simp only [Option.bind_some];have S2:=S'.add (c:=c) hE (show k<=j by omega) hjn (Nat.le_refl k) hk AGh
  refine AGp ⟨AGh,_,_,?_,AGh,S2,?_,fun j' h1 h2=>?_⟩
  · rw [hj,AWt AGh];rfl
  · rw [Aem,if_neg AGh,if_neg AGh];exact hd
  · rw [Aem,if_neg AGh]
    by_cases h3:j'=j
    · rw [if_pos h3,hy,hd];exact A5x (hce ▸ Eqm.mod _ _) hv
    · rw [if_neg h3];exact hz j' h1 AGh
theorem A12 {A B C v:Int} (S:DS n K H T G L k E) (hs:∀ i j,i < n->j < n->H i j=H j i) (hK:K<=30) (hE:E<=K) (hn:n<=8) (hk:k + 1 < n) (hA:G k k=2 ^ E * A) (hB:G k (k + 1)=2 ^ E * B) (hC:G (k + 1) (k + 1)=2 ^ E * C) (hv:Eqm (2 ^ K) (v * (A * C - B * B)) 1) (hf:100 < fuel):
    Ok (iter (fun s=>Aap fuel K (k:Int) E (2 ^ E * A) (2 ^ E * B) (2 ^ E * C) v s.1 s.2.1 s.2.2) fuel (((k + 2:Nat):Int),tab n n G,tab n n T)) fun ex=> ∃ T' G',ex=(tab n n G',tab n n T')/\DS n K H T' G' L k E/\(G' k k=2 ^ E * A/\G' k (k + 1)=2 ^ E * B/\G' (k + 1) (k + 1)=2 ^ E * C)/\ ∀ j,k + 1 < j->j < n->G' k j=0/\G' (k + 1) j=0:=by
  refine AUa (fun i s=> ∃ T' G',s=(((k + 2 + i:Nat):Int),tab n n G',tab n n T')/\k + 2 + i<=n/\DS n K H T' G' L k E/\(G' k k=2 ^ E * A/\G' k (k + 1)=2 ^ E * B/\G' (k + 1) (k + 1)=2 ^ E * C)/\ ∀ j,k + 1 < j->j < k + 2 + i->G' k j=0/\G' (k + 1) j=0) (n - (k + 2)) ⟨T,G,rfl,AGh,S,⟨hA,hB,hC⟩,fun j h1 h2=>by omega⟩ AGh fun i s hi hI=>?_;obtain ⟨T',G',rfl,hin,S',⟨h1,h2,h3⟩,hz⟩:=hI;unfold Aap;dsimp only;rw [AT5];refine ATr (fun h=>?_) fun h=>AGp ⟨T',G',rfl,S',⟨h1,h2,h3⟩,fun j h1 h2=>hz j h1 AGh⟩;obtain ⟨j,hj⟩:∃ j,j=k + 2 + i:=⟨_,rfl⟩;rw [<- hj] at h hin hz ⊢;have hjn:j < n:=by omega
  have hk0:k < n:=by omega
  have e1:w64 ((k:Int) + 1)=((k + 1:Nat):Int):=AWt AGh;obtain ⟨x,hx⟩:=S'.fl k j (Nat.le_refl k) hk0 AGh hjn;obtain ⟨y,hy⟩:=S'.fl (k + 1) j AGh hk AGh hjn;have hEE:0<=(E:Int)/\(E:Int)<=64:=by omega
  rw [e1,AY5 (AT7 hk0),AY5 (ATv hjn),if_pos hEE,AY5 (AT7 hk),AY5 (ATv hjn),if_pos hEE,hx,hy,Agm,Agm,Agm,Agm,Agm];have sub:∀ a b c d:Int,Eqm (2 ^ K) (w64 (a * b) - w64 (c * d)) (a * b - c * d):=fun a b c d=>(Ajl hK _).sub (Ajl hK _);have hc1:mkE K (w64 (B * y) - w64 (C * x))=some ((B * y - C * x) % 2 ^ K):=mk_val hK (sub _ _ _ _);have hd1:mkE K (w64 (B * x) - w64 (A * y))=some ((B * x - A * y) % 2 ^ K):=mk_val hK (sub _ _ _ _);have hc2:mkE K ((B * y - C * x) % 2 ^ K * v)=some ((B * y - C * x) * v % 2 ^ K):=mk_val hK ((Eqm.mod _ _).mul (Eqm.refl _ v));have hd2:mkE K ((B * x - A * y) % 2 ^ K * v)=some ((B * x - A * y) * v % 2 ^ K):=mk_val hK ((Eqm.mod _ _).mul (Eqm.refl _ v));unfold mkE at hc1 hd1 hc2 hd2;rw [hc1];simp only [Option.bind_some];rw [hd1];simp only [Option.bind_some];rw [hc2];simp only [Option.bind_some];obtain ⟨c,hce⟩:∃ c,c=(B * y - C * x) * v % 2 ^ K:=⟨_,rfl⟩;obtain ⟨d,hde⟩:∃ d,d=(B * x - A * y) * v % 2 ^ K:=⟨_,rfl⟩;rw [<- hde] at hd2;rw [<- hce,Ayo (R:=AW5 fuel K (k:Int) (j:Int) c) (RG:=fun X s=>Aaj fuel K (k:Int) (j:Int) c X s.1 s.2) (RT:=fun X s=>Aak fuel K (k:Int) (j:Int) c X s.1 s.2) (RE:=Aal fuel K (k:Int) (j:Int) c) hK hn hjn hk0 AGh hf (fun G T=>by unfold AW5;rfl) (fun G T=>by unfold AW5;rfl) (fun G T=>by unfold AW5;rfl) (fun X r M=>by unfold Aaj;dsimp only;rw [AT5]) (fun X r M=>by unfold Aak;dsimp only;rw [AT5]) fun F s M=>by unfold Aal;rw [AUh]];simp only [Option.bind_some];rw [hd2];simp only [Option.bind_some];rw [Ayo (R:=AW6 fuel K (k:Int) (j:Int) d) (RG:=fun X s=>Aam fuel K (k:Int) (j:Int) d X s.1 s.2) (RT:=fun X s=>Aan fuel K (k:Int) (j:Int) d X s.1 s.2) (RE:=Aao fuel K (k:Int) (j:Int) d) hK hn hjn hk AGh hf (fun G T=>by unfold AW6;rfl) (fun G T=>by unfold AW6;rfl) (fun G T=>by unfold AW6;rfl) (fun X r M=>by unfold Aam;dsimp only;rw [AT5,e1]) (fun X r M=>by unfold Aan;dsimp only;rw [AT5,e1]) fun F s M=>by unfold Aao;rw [AUh,e1]];simp only [Option.bind_some];have S2:=(S'.add (c:=c) hE (show k<=j by omega) hjn (Nat.le_refl k) hk0 AGh).add (c:=d) hE (show k<=j by omega) hjn (show k<=k + 1 by omega) hk AGh;have keep:∀ a b,a≠j->b≠j->Ar4 (2 ^ K) j (k + 1) d (Ar4 (2 ^ K) j k c G') a b=G' a b:=fun a b ha hb=>by rw [Aem,if_neg ha,if_neg hb,Aem,if_neg ha,if_neg hb]
  have at':∀ a,a≠j->Ar4 (2 ^ K) j (k + 1) d (Ar4 (2 ^ K) j k c G') a j=((G' a j + c * G' a k) % 2 ^ K + d * G' a (k + 1)) % 2 ^ K:=fun a ha=>by
    rw [Aem,if_neg ha,if_pos rfl,Aem,if_neg ha,if_pos rfl,Aem,if_neg ha,if_neg AGh]
  refine AGp ⟨AGh,_,_,?_,AGh,S2,⟨?_,?_,?_⟩,fun j' h4 h5=>?_⟩
  · rw [hj,AWt AGh];rfl
  · rw [keep _ _ AGh AGh];exact h1
  · rw [keep _ _ AGh AGh];exact h2
  · rw [keep _ _ AGh AGh];exact h3
  · by_cases h6:j'=j
    · have hsy:G' (k + 1) k=2 ^ E * B:=by rw [S'.e.sym hs S'.rg hk hk0];exact h2
      rw [h6,at' k AGh,at' (k + 1) AGh,hx,hy,h1,h2,h3,hsy];exact A1z (hce ▸ Eqm.mod _ _) (hde ▸ Eqm.mod _ _) hv
    · rw [keep _ _ AGh h6,keep _ _ AGh h6];exact hz j' h4 AGh
theorem Au6:∀ {L:List AW8},Apk L->L.length<=Ady L
  | [],_=>Nat.le_refl 0
  | c :: L,h=>by
    have h1:=Au6 (L:=L) fun x hx=>h x (List.mem_cons_of_mem _ hx)
    have h2:=h c ATw
    rw [Ag4,List.length_cons];omega
theorem Ayq {x:Int}: ¬ (2:Int) ∣ x↔x % 2=1:=⟨fun h=>by have: ¬ x % 2=0:=fun h2=>h (Int.dvd_of_emod_eq_zero h2);omega,fun h h2=>by have:=Int.emod_eq_zero_of_dvd h2;omega⟩
theorem Au7 {A:Int} (hEK:E<=K) (h:0<=2 ^ E * A/\(2:Int) ^ E * A < 2 ^ K):0<=A/\A < 2 ^ (K - E):=by
 have h0:(0:Int) < 2 ^ E:=Int.pow_pos AGj;refine ⟨Int.nonneg_of_mul_nonneg_right h.1 h0,Int.lt_of_mul_lt_mul_left ?_ (Int.le_of_lt h0)⟩;rw [<- Int.pow_add,show E + (K - E)=K by omega];exact h.2
theorem A8c {M:List (List Int)} (hM:M.length=n) (S:DS n K H T G L k E) (B:DL K L k E) (hs:∀ i j,i < n->j < n->H i j=H j i) (hd: ¬ (2:Int) ^ (K - 2) ∣ det n H) (hK3:3<=K) (hK:K<=30) (hn:n<=8) (hk:k < n) (hf:2147483648 < fuel):
    ∃ T' G' L' k' E',AWd fuel M K (k:Int) (tab n n G) (tab n n T) L=some (.inl ((k':Nat),tab n n G',tab n n T',L'))/\k < k'/\k'<=n/\DS n K H T' G' L' k' E'/\DL K L' k' E':=by
  have hP2:Pr 2:=⟨AGh,fun d h1 h2=>by omega⟩;have hI:=Ayp hP2;have hf2:100 < fuel:=by omega
  have hq1:(2:Int) ^ 1<=2 ^ K:=Adk AGj AGh;have hq2:(2:Int) ^ K<=2 ^ 30:=Adk AGj hK;rw [show (2:Int) ^ 30=1073741824 by decide] at hq2;rw [Int.pow_succ,Int.pow_zero,Int.one_mul] at hq1;have hd2: ¬ (2:Int) ^ K ∣ det n H:=fun h=>hd (Int.dvd_trans (AX6 AGh) h);obtain ⟨ex,hpv,r,c,F,rfl,hFK,P,hall⟩:=A5w (fuel:=fuel) (n:=n) (k:=k) (K:=K) (G:=G) hK hn S.rg hk (S.some hs hd2 hk) hf2;have S1:=S.low hs hall;obtain ⟨u,hu,hpu⟩:=P.u;have hrk:=P.hr;have hrc:=P.hrc;have hcn:=P.hc;have hrn:r < n:=by omega
  have hEF:=A5t hI hu hpu (S.fl r c P.hr hrn AGh P.hc);have hFb:=S1.bound hs hd AGh hk;have hFF:0<=(F:Int)/\(F:Int)<=64:=by omega
  have hLk:L.length<=8:=by have:=Au6 B.sz;have:=B.sum;omega
  by_cases hne:r=c
  · subst hne;have S2:=S1.move (i:=r) hrn (r - k) k AGh (Nat.le_refl k);have hdk:mvG k r G k k=2 ^ F * u:=by unfold mvG;rw [Ayn,hu,Int.mul_comm]
    obtain ⟨v,hv,hvi⟩:=A5l (f:=fuel) (x:=u) (m:=2 ^ K) AGh AGh (Ato hP2 hpu AGh) hf;have hvq:Eqm (2 ^ K) (v * u) 1:=((Eqm.refl _ v).mul (Eqm.mod _ u)).symm.trans hvi.2.2;obtain ⟨ex,hcl,T2,G2,rfl,S3,hd3,hz3⟩:=A5y (fuel:=fuel) S2 hK AGh hn hk hdk hvq hf2;have hub:=Au7 (E:=F) (K:=K) (A:=u) AGh (hd3 ▸ S3.rg k k hk hk)
    refine ⟨T2,G2,L ++ [((F:Int),1,u,0,0)],k + 1,F,?_,AGh,AGh,S3.next1 hs B.sz B.sum hk hz3 hd3,B.push hEF rfl ⟨⟨by dsimp only;omega,by rw [if_pos rfl];dsimp only;omega⟩,?_⟩ (m:=1) rfl (.inl rfl)⟩
    · unfold AWd;rw [hM,if_pos AGh,hpv];simp only [Option.bind_some];rw [if_neg AGh,(Au5 (fuel:=fuel) (G:=G) (T:=T) hn hrk hrn hf2).2.2];simp only [Option.bind_some];rw [AY5 (AT7 hk),AY5 (ATv hk),if_pos hFF,if_pos trivial,if_pos (show 0<=(K:Int)/\(K:Int)<=64 by omega),hdk,Agm,Aqk hK,hv];simp only [Option.bind_some];rw [Ar2 (x:=[v]) rfl,Ar2 (x:=v) rfl];simp only [Option.bind_some];rw [AWt AGh,hcl];simp only [Option.bind_some];rw [if_pos AGh,AWt AGh]
    · rw [if_pos rfl];dsimp only;rw [Int.toNat_natCast];refine ⟨⟨?_,hub.2⟩,hpu,rfl,rfl⟩
      rcases Int.lt_or_le 0 u with h | h
      · exact h
      · exact absurd (show (2:Int) ∣ u by rw [show u=0 by omega];exact ⟨0,rfl⟩) hpu
  · have hlt:r < c:=by omega
    have hdg:=P.dg hne;have S2:=(S1.move (i:=c) hcn (c - k) k AGh (Nat.le_refl k)).move (i:=r + 1) AGh (r + 1 - k) k AGh (Nat.le_refl k);obtain ⟨p1,p2,p3⟩:=A79 hrk hlt G;obtain ⟨a,ha⟩:=hdg r hrk hrn;obtain ⟨b,hb⟩:=hdg c AGh hcn;have ha2:G r r=2 ^ F * (2 * a):=by rw [ha,Int.pow_succ,Int.mul_assoc]
    have hb2:G c c=2 ^ F * (2 * b):=by rw [hb,Int.pow_succ,Int.mul_assoc]
    rw [ha2] at p1;rw [hu,Int.mul_comm] at p2;rw [hb2] at p3;have hk1:k + 1 < n:=by omega
    have hu1:=Ayq.1 hpu
    have hdet: ¬ (2:Int) ∣ 2 * a * (2 * b) - u * u:=Ayq.2 (by
      have h1:u * u % 2=1:=by rw [Int.mul_emod,hu1];rfl
      have h2:2 * a * (2 * b)=2 * (a * (2 * b)):=Int.mul_assoc _ _ _;omega)
    obtain ⟨D,hD⟩:∃ D,D=(2 * a * (2 * b) - u * u) % 2 ^ K:=⟨_,rfl⟩
    have hDnd: ¬ (2:Int) ∣ D:=fun h=>hdet (by
      have h2:Eqm 2 D (2 * a * (2 * b) - u * u):=by rw [hD];exact (Eqm.mod (2 ^ K) _).down ⟨2 ^ (K - 1),by rw [<- Int.pow_succ',show K - 1 + 1=K by omega]⟩
      exact Aom h2.symm (Int.dvd_refl _) h)
    obtain ⟨v,hv,hvi⟩:=A5l (f:=fuel) (x:=D) (m:=2 ^ K) AGh AGh (Ato hP2 hDnd AGh) hf
    have hvq:Eqm (2 ^ K) (v * (2 * a * (2 * b) - u * u)) 1:=by
      refine Eqm.trans ?_ hvi.2.2;refine (Eqm.refl _ v).mul ?_;rw [hD];exact ((Eqm.mod _ _).trans (Eqm.mod _ _)).symm
    obtain ⟨ex,hcl,T2,G2,rfl,S3,⟨q1,q2,q3⟩,hz3⟩:=A12 (fuel:=fuel) S2 hs hK AGh hn hk1 p1 p2 p3 hvq hf2;have b1:=Au7 (E:=F) (K:=K) (A:=2 * a) AGh (q1 ▸ S3.rg k k hk hk);have b2:=Au7 (E:=F) (K:=K) (A:=u) AGh (q2 ▸ S3.rg k (k + 1) hk hk1);have b3:=Au7 (E:=F) (K:=K) (A:=2 * b) AGh (q3 ▸ S3.rg (k + 1) (k + 1) hk1 hk1)
    refine ⟨T2,G2,L ++ [((F:Int),2,2 * a,u,2 * b)],k + 2,F,?_,AGh,AGh,S3.next2 hs B.sz B.sum hk1 hz3 q1 q2 q3,B.push hEF rfl ⟨⟨by dsimp only;omega,by rw [if_pos rfl];dsimp only;omega⟩,?_⟩ (m:=2) rfl (.inr rfl)⟩
    · have hm1:=(Au5 (fuel:=fuel) (G:=G) (T:=T) hn (show k<=c by omega) hcn hf2).1;have hm2:=(Au5 (fuel:=fuel) (G:=mvG k c G) (T:=mvC k c T) hn (show k<=r + 1 by omega) (show r + 1 < n by omega) hf2).2.1;have hmk:mkE K (w64 (2 * a * (2 * b)) - w64 (u * u))=some D:=by rw [hD];exact mk_val hK ((Ajl hK _).sub (Ajl hK _))
      unfold mkE at hmk;unfold AWd;rw [hM,if_pos AGh,hpv];simp only [Option.bind_some];rw [if_pos AGh,hm1];simp only [Option.bind_some];rw [AWt AGh,hm2];simp only [Option.bind_some];rw [AY5 (AT7 hk),AY5 (ATv hk),if_pos hFF,if_neg AGj,AWt AGh,AY5 (ATv hk1),if_pos hFF,AY5 (AT7 hk1),AY5 (ATv hk1),if_pos hFF,p1,p2,p3,Agm,Agm,Agm,hmk];simp only [Option.bind_some];rw [if_pos (show 0<=(K:Int)/\(K:Int)<=64 by omega),Aqk hK,hv];simp only [Option.bind_some];rw [Ar2 (x:=[v]) rfl,Ar2 (x:=v) rfl];simp only [Option.bind_some];rw [show w64 ((k:Int) + 2)=((k + 2:Nat):Int) by rw [wk AGh];rfl,hcl];simp only [Option.bind_some];rw [if_pos AGh,show w64 ((k:Int) + 2)=((k + 2:Nat):Int) by rw [wk AGh];rfl]
    · rw [if_neg (show ¬ (2:Int)=1 by decide)];dsimp only;rw [Int.toNat_natCast];exact ⟨⟨b1,b2,b3⟩,AGh,hu1,AGh⟩
end
theorem A5z {fuel n:Nat} {M:List (List Int)} (hM:M.length=n) (hn:n<=8) (hf:100 < fuel):iter (fun s=>Aba fuel M s.1 s.2) fuel (0,[])=some (tab n n dl):=by
  apply ok_eq;refine AUa (fun i s=>s=((i:Int),AVk i fun a=>AVk n (dl a))/\i<=n) n ⟨rfl,Nat.zero_le _⟩ AGh fun i s hi hI=>?_;obtain ⟨rfl,hin⟩:=hI;unfold Aba;dsimp only;rw [hM]
  refine ATr (fun h=>?_) fun h=>?_
  · have hi:i < n:=by omega
    rw [if_pos AGh,AUh,if_pos AGh,Int.toNat_natCast,AYq n (0:Int)]
    have hget:(AVk i (fun a=>AVk n (dl a)) ++ [AVk n fun _=>(0:Int)])[i]? =some (AVk n fun _=>(0:Int)):=by
      rw [List.getElem?_append_right (by rw [AUh];exact Nat.le_refl _),AUh,Nat.sub_self];rfl
    rw [AY5 hget,AY5 (ATv hi),Aop,AWt AGh];refine AGp ⟨hi,?_,hi⟩;congr 1;rw [AU0,List.set_append,if_neg (by rw [AUh];omega),AUh,Nat.sub_self];show AVk i (fun a=>AVk n (dl a)) ++ [AVk n fun c=>if c=i then 1 else 0]=_
    have:AVk n (fun c=>if c=i then (1:Int) else 0)=AVk n (dl i):=AUd fun c _=>by
      unfold dl
      by_cases h:c=i
      · rw [if_pos h,if_pos h.symm]
      · rw [if_neg h,if_neg (fun e=>h e.symm)]
    rw [this];unfold AVk;rw [List.range_succ,List.map_append];rfl
  · obtain rfl:i=n:=by omega
    exact AGp rfl
theorem BAx {fuel:Nat} {M:List (List Int)} (R:Ar0 M) (hf:2147483648 < fuel):
    ∃ (K E:Nat) (T G:AS4) (L:List AW8),Aa2 fuel M=some ((2,tab M.length M.length T,L),0)/\AWs fuel M 2=some ((K:Int),0)/\3<=K/\K<=30/\Auw (det M.length (ent M)) 2 ((K:Int) - 3)/\DS M.length K (ent M) T G L M.length E/\DL K L M.length E:=by
  have hf2:100 < fuel:=by omega
  have hP2:Pr 2:=⟨AGh,fun d h1 h2=>by omega⟩;have hI:=Ayp hP2;obtain ⟨v,hv,hv2,hj,-⟩:=Atj (fuel:=fuel) R hP2 AGj hf2;obtain ⟨K,hk,hq,hk1,hk3⟩:=A5s R AGj AGj hv;have hK3:=hk3 rfl;have hK:=A5d (p:=2) AGj hq;rw [hk] at hj;rw [if_pos rfl] at hk;have hn:=R.1.2;have hs:∀ i j,i < M.length->j < M.length->ent M i j=ent M j i:=fun i j hi hj=>R.2.2.sym i j hi hj
  have hq1:(2:Int)<=2 ^ K:=by
    have h1:(2:Int) ^ 1<=2 ^ K:=Adk AGj hk1;rw [Int.pow_succ,Int.pow_zero,Int.one_mul] at h1;omega
  have hd: ¬ (2:Int) ^ (K - 2) ∣ det M.length (ent M):=fun h=>by
    obtain ⟨e,r,he,h1,h2⟩:=hv;have:=A5t (f:=K - 2) hI h1 h2 h;omega
  have hrd:isRed M=true:=(Ati M).2 R
  have hP:AWs fuel M 2=some ((K:Int),0):=by
    unfold AWs Akb;rw [hrd];simp only [Option.bind_some,Bool.not_true,Bool.false_eq_true,reduceIte,not_true_eq_false];rw [hj];rfl
  unfold Aa2;rw [hP];simp only [Option.bind_some];rw [if_neg (show ¬ ¬ True from fun h=>h trivial),if_pos (show 0<=(K:Int)/\(K:Int)<=64 by omega),Aqk hK,BAu R hq1 hq hf2];simp only [Option.bind_some];rw [A5z rfl hn hf2];simp only [Option.bind_some]
  have S0:DS M.length K (ent M) dl (fun i j=>ent M i j % 2 ^ K) [] 0 0:=⟨fun i j _ _=>by
    unfold dl;split <;> omega,fun i j _ _=>Aqj AGh _,BAq fun i j _ _=>Eqm.mod _ _,fun i j h=>absurd h (Nat.not_lt_zero i),fun i j h=>absurd h (Nat.not_lt_zero i),fun i j _ _ _ _=>⟨ent M i j % 2 ^ K,by rw [Int.pow_zero,Int.one_mul]⟩⟩
  have main:Ok (iter (fun s=>AWd fuel M K s.1 s.2.1 s.2.2.1 s.2.2.2) fuel (0,tab M.length M.length (fun i j=>ent M i j % 2 ^ K),tab M.length M.length dl,[])) fun ex=> ∃ (E:Nat) (T G:AS4) (L:List AW8),ex=(tab M.length M.length G,tab M.length M.length T,L)/\DS M.length K (ent M) T G L M.length E/\DL K L M.length E:=by
    refine Ary (fun s=> ∃ (k E:Nat) (T G:AS4) (L:List AW8),s=((k:Int),tab M.length M.length G,tab M.length M.length T,L)/\k<=M.length/\DS M.length K (ent M) T G L k E/\DL K L k E) (fun s=>M.length - s.1.toNat) (fun s hI=>?_) ⟨0,0,_,_,_,rfl,Nat.zero_le _,S0,DL.nil⟩ (by show M.length - 0 < fuel;omega);obtain ⟨k,E,T,G,L,rfl,hin,S,B⟩:=hI;dsimp only
    rcases Nat.lt_or_ge k M.length with h | h
    · obtain ⟨T',G',L',k',E',h1,h2,h3,h4,h5⟩:=A8c (fuel:=fuel) (M:=M) rfl S B hs hd hK3 hK hn h hf;rw [h1];refine AGp ⟨⟨k',E',T',G',L',rfl,h3,h4,h5⟩,?_⟩;show M.length - (k':Int).toNat < M.length - (k:Int).toNat;omega
    · obtain rfl:k=M.length:=by omega
      unfold AWd;rw [if_neg AGh];exact AGp ⟨E,T,G,L,rfl,S,B⟩
  obtain ⟨ex,h1,E,T,G,L,rfl,S,B⟩:=main;rw [h1];exact ⟨K,E,T,G,L,rfl,rfl,hK3,hK,by rwa [show (K:Int) - 3=v by omega],S,B⟩
end Go.Proofs.YthbndcbclhkepaaGreatDoor
namespace Go.Proofs.YthbndcbclhkepaaGreatDoor
open Go Go.QF
set_option maxRecDepth 100000
theorem pr2:Pr 2:=⟨AGh,fun d h1 h2=>by omega⟩
theorem A50:isRed [[2,1],[1,2]]=true:=by
 unfold isRed
 rw [<- AY0 (M:=[[2,1],[1,2]]) ⟨AGj,AGj,fun i j hi hj=>by
   have hi:i < 2:=hi
   have hj:j < 2:=hj
   rcases (by omega:i=0∨i=1) with rfl | rfl <;> rcases (by omega:j=0∨j=1) with rfl | rfl <;> decide⟩]
 decide +kernel
theorem Au8:AXj (AWv + 1)=some true:=by
 have Ab:100 < AWv + 1:=Nat.lt_of_le_of_lt AGj (Nat.lt_succ_self AWv);have R:=(Ati _).1 A50;have hd:det 2 (ent [[2,1],[1,2]])=3:=by decide +kernel
 obtain ⟨v,h1,h2,h3,h4⟩:=Atj (fuel:=AWv + 1) R (p:=2) pr2 AGh Ab;obtain rfl:v=0:=A0e (p:=2) (d:=3) AGh (by simpa [hd] using h1) ⟨0,3,rfl,AGj,AGj⟩;rw [if_pos rfl] at h3;unfold AXj Afd AWs Akb;simp only [A50,h3,Option.bind_some,Bool.not_true,Bool.false_eq_true,reduceIte];decide +kernel
end Go.Proofs.YthbndcbclhkepaaGreatDoor
namespace Go.Proofs.YthbndcbclhkepaaGreatDoor
open Go Go.QF
set_option maxRecDepth 100000
set_option maxHeartbeats 4000000
noncomputable def AXf (fuel:Nat) (Ab:LiI) (Ac:Bool) (Aa:Int):Option ((Bool × Int) ⊕ ((Bool))):=
  (if Aa < (Ab.length:Int) then (if Ac=true then ((gI Ab Aa).bind fun Ad=>((gI Ad Aa).bind fun Ae=>(some (Sum.inl ((decide ((Int.tmod Ae 2)=0)),(w64 (Aa + 1))))))) else (some (Sum.inl (false,(w64 (Aa + 1)))))) else (some (Sum.inr<| Ac)))
noncomputable def AYi (fuel:Nat) (a1 a2:Int) (a5 a9:LiA):Option Bool:=
  ((AWh fuel a1 a2 a5 a9 7).bind fun Ab=>((Aa2 fuel Ab).bind fun (Aa,Ag)=>((iter (fun s=>AXf fuel Ab s.1 s.2) fuel (true,0)).bind (fun (Ah:Bool)=>(if Ag=0 then ((Adu fuel Aa.1 Aa.2.1 Aa.2.2).bind fun Ai=>(if (Ai == Ah)=true then ((AXj fuel).bind fun Aj=>(some Aj)) else (some false))) else (some false))))))
theorem Ahm {fuel:Nat} {h:AGs} {a1 a2:Int} {Ad:Value} {a5:LiA} {Ae:Value} {a9:LiA} {r:Bool} (H4:SlC (cI .i8) h Ad a5) (H8:SlC (cI .i8) h Ae a9) (HO:Am5 h) (hp:AYi fuel a1 a2 a5 a9=some r):ATt Tryz.prog 6 #[(.agg #[(.int .u8 a1),(.int .u8 a2),Ad,Ae])] h (fun x h'=>Ext h h'/\x= .bool r):=by
 unfold AYi at hp;refine cwf (l:=[_]) Tryz.func6 rfl rfl (AGl (AYn (Kst.k0 h) [(.int .u8 a1),(.int .u8 a2),Ad,Ae] fun Ca Cb Cd Af=>ATx (Acb [(.int .u8 a1),(.int .u8 a2),Ad,Ae] A4h rfl rfl (Af.b p0).agg ?_)));obtain ⟨Ce,Bc,Be⟩:=AGm hp;refine Ahc Af (Ag2 (H4.ext Af.x) (H8.ext Af.x) Bc) fun Cf Cg Ch Ci Cj Ck Aj=>ATx (AGi ?_);obtain ⟨⟨Ag,Bf⟩,Bg,Ax⟩:=AGm Be;dsimp only at Ax;refine Afg rfl (Alp (Aj.o2 p0).rd (HO.ext Aj.x) Bg) fun Cm Cn Bh Bi=>?_;obtain ⟨Ak,Am,Bj,Bl,Bm,Bn,rfl,Bo,Bp,Bq⟩:=Bi;have Ay:=Aj.n Bh [aO2 (cI .i64) 49 2 Bj Bl Bm Ak Ag.2.1,aO Akv 58 Bn Am Ag.2.2] Bq ⟨Bo,Bp,trivial⟩;simp only [List.cons_append,List.nil_append] at Ay;refine AGi (AUe rfl rfl (AUe rfl rfl (AVt Ay [(.int .i64 0),(.slice none 0 0),(.slice none 0 0)] At1 fun Co Cp Cq Ah=>AUz [(.int .i64 Ag.1),Ak,Am] Af7 rfl rfl rfl rfl (Aay rfl (Aay (Ah.o2 p1).isOne (Aay (Ah.o p2).isOne Ak2))) (Ah.b p0) fun Cr Br Bt=>ATx (AGw (AGn (AGl (AGi ?_)))))));have Az:=Ah.sb p0 Bt Br rfl;refine AT3 AS8 rfl (Az.o2 p3).rd (AGi (AGq (AGo ?_)));have Ao:=Az.sel [0,1,2,3] AGj;dsimp only [AYk,Abf] at Ao;refine AY2 8589803712 Ax (fun x=>[(6,(.bool x.1)),(17,(.int .i64 x.2))]) (fun x=>Ao.L) Ao ⟨rfl,rfl,trivial⟩ ?_;rintro ⟨A3,Bu⟩ Ct Cu Cv Aa Ap Bv;unfold AXf at Ap;refine AGl (ATm rfl rfl (AGq (AGn (⟨_,rfl,fun Aq=>?_,fun Aq=>?_⟩))))
 ·refine AGx (q_t (AGn (AGo (AGl (AGi (AGw (AS3 (AGi (AGi ?_)))))))));have A4:=AT0 Ap Aq;cases A5:A3
  ·refine Acd 21 false (Afz 21 false (ATq rfl (ATi (ATf (q_b (q_t (AS3 (ATj rfl rfl (AGi (AGq ?_))))))))));exact ⟨_,(AGk (Aav A4 A5)).symm,Aa,rfl,rfl,trivial⟩
  ·refine ATo 21 true (AGi (ATo 21 true (AGi (ATo 21 true ?_))));obtain ⟨Cw,Ar,Bw⟩:=AGm (ifT A4 A5);refine AVd AS8 rfl (Aa.o2 p3) rfl Ar fun Cx Cy Cz Bx By=>ATo 21 true (ATz ATk rfl By (ATo 21 true (AGi (ATo 21 true ?_))));obtain ⟨C0,A6,Bz⟩:=AGm Bw;refine AWc (m:=Bu) AS7 rfl (Aa.o2 p3) Bx Ar rfl A6 fun C1 B1=>ATo 21 true ?_;obtain ⟨C2,B3,B4⟩:=(Aa.o2 p3).cells B1 Ar A6;obtain rfl:=B3;refine ATz ATd rfl (B4 0 _ rfl) (ATo 21 true (Afj rfl rfl AGj (ATo 21 true (AV2 rfl rfl (ATh rfl (ATi (ATf (q_b (q_t (AS3 (ATj rfl rfl (AGi (AGq ?_)))))))))))));exact ⟨_,(AGk Bz).symm,Aa,rfl,rfl,trivial⟩
 ·refine AS9 (ATa (ATa (AT9 (q_t (AGl (AGi (AV2 rfl rfl (AGi ?_))))))));have A7:=Bv _ (AGk (AT1 Ap Aq)).symm;by_cases Ai:Bf=0
  ·rw [decide_eq_true Ai];refine ATo 35 true (Acb [(.int .i64 Ag.1),Ak,Am] Af7 rfl rfl (Aa.b p0).agg (ATo 35 true ?_));obtain ⟨B5,B6,A8⟩:=AGm (ifT A7 Ai);refine AXx Aa (Akl (Aa.o2 p1).rd (Aa.o p2).rd B6) fun C3 C4 Au=>ATo 35 true (AGi (ATo 35 true (Aq0 Akw rfl rfl (ATh rfl (AGi ?_)))));cases A9:(B5 == A3)
   ·refine Avk 41 false (ATq rfl (AGw (AGy ?_)));obtain rfl:=AGk (Aav A8 A9);exact ⟨_,AS1,Au.x,rfl⟩
   ·refine ATo 41 true ?_;obtain ⟨C5,B7,B8⟩:=AGm (ifT A8 A9);refine AXx Au (Aj0 (HO.ext Au.x) B7) fun C6 C7 B9=>ATh rfl (AGw (AGy ?_));obtain rfl:=AGk B8;exact ⟨_,AS1,B9.x,rfl⟩
  ·rw [decide_eq_false Ai];refine Afz 35 false (ATq rfl (AGi (Avk 41 false (ATq rfl (AGw (AGy ?_))))));obtain rfl:=AGk (ifF A7 Ai);exact ⟨_,AS1,Aa.x,rfl⟩
end Go.Proofs.YthbndcbclhkepaaGreatDoor
namespace Go.Proofs.YthbndcbclhkepaaGreatDoor
open Go Go.QF
set_option maxRecDepth 100000
theorem Axb {c:Prop} [Decidable c] {α:Type} {a b:Option α} {R:α->Prop} (hc:c) (h:Ok a R):Ok (if c then a else b) R:=by rw [if_pos hc];exact h
end Go.Proofs.YthbndcbclhkepaaGreatDoor
namespace Go.Proofs.YthbndcbclhkepaaGreatDoor
open Go Go.QF
set_option maxRecDepth 100000
def cN:List AX4->Int
  | []=>0
  | c :: l=>c.2.1 + cN l
def cV:List AX4->Int
  | []=>0
  | c :: l=>c.2.1 * c.1 + cV l
def cS:List AX4->Int
  | []=>1
  | c :: l=>c.2.2.1 * cS l
theorem Ayr (l:List AX4) (c:AX4):cN (l ++ [c])=cN l + c.2.1:=by
 induction l with
 | nil=>simp [cN]
 | cons a l ih=>simp only [List.cons_append,cN,ih];omega
theorem Ays (l:List AX4) (c:AX4):cV (l ++ [c])=cV l + c.2.1 * c.1:=by
 induction l with
 | nil=>simp [cV]
 | cons a l ih=>simp only [List.cons_append,cV,ih];omega
theorem Ayt (l:List AX4) (c:AX4):cS (l ++ [c])=cS l * c.2.2.1:=by
 induction l with
 | nil=>simp [cS]
 | cons a l ih=>simp only [List.cons_append,cS,ih];grind
theorem BAy {a b:Int} (ha:a=1∨a= -1) (hb:b=1∨b= -1):(a * b=1∨a * b= -1)/\w64 (a * b)=a * b:=by
 rcases ha with rfl | rfl <;> rcases hb with rfl | rfl <;> decide
def s8 (x:Int):Int:=if x % 8=3∨x % 8=5 then -1 else 1
theorem BB6 (x:Int):s8 x=1∨s8 x= -1:=by unfold s8;split <;> simp
def s2L:List AW8->Int
  | []=>1
  | b :: l=>s8 (dB b) * s2L l
theorem A8d (L:List AW8) (b:AW8):s2L (L ++ [b])=s2L L * s8 (dB b):=by
 induction L with
 | nil=>show _ * 1=1 * _;omega
 | cons c L ih=>show _ * s2L (L ++ [b])=_ * s2L L * _;rw [ih,Int.mul_assoc]
theorem Atp:∀ (L:List AW8) (i:Nat),Ady (L.take i)<=Ady L
  | [],i=>by rw [List.take_nil];exact Nat.le_refl _
  | c :: L,0=>Nat.zero_le _
  | c :: L,i + 1=>by
    rw [List.take_succ_cons,Ag4,Ag4]
    have:=Atp L i
    omega
theorem BCk (a:Int):AY7 .and .i64 a 7=a % 8:=Aw6 (k:=3) AGj a
def od (C:List AX4):Prop:= ∃ c∈C,c.1=0/\c.2.2.2.1=true
def oB (L:List AW8):Prop:= ∃ b∈L,b.2.1=1/\b.1=0
theorem Ayu (l:List AX4) (c:AX4):od (l ++ [c])↔od l∨(c.1=0/\c.2.2.2.1=true):=by
 constructor
 ·rintro ⟨x,hx,h⟩;rcases List.mem_append.1 hx with h1 | h1
  ·exact .inl ⟨x,h1,h⟩
  ·rw [List.mem_singleton.1 h1] at h;exact .inr h
 ·rintro (⟨x,hx,h⟩ | h)
  ·exact ⟨x,List.mem_append_left _ hx,h⟩
  ·exact ⟨c,List.mem_append_right _ (List.mem_singleton.2 rfl),h⟩
theorem BA0 (l:List AW8) (c:AW8):oB (l ++ [c])↔oB l∨(c.2.1=1/\c.1=0):=by
 constructor
 ·rintro ⟨x,hx,h⟩;rcases List.mem_append.1 hx with h1 | h1
  ·exact .inl ⟨x,h1,h⟩
  ·rw [List.mem_singleton.1 h1] at h;exact .inr h
 ·rintro (⟨x,hx,h⟩ | h)
  ·exact ⟨x,List.mem_append_left _ hx,h⟩
  ·exact ⟨c,List.mem_append_right _ (List.mem_singleton.2 rfl),h⟩
structure CRm (L:List AW8) (i:Nat) (e:Int) (D:List AX4):Prop where
  last:∃ l c,D=l ++ [c]/\c.1=e
  len:D.length<=i + 1
  ok:∀ c∈D,(0<=c.2.1/\c.2.1<=2 * (i:Int))/\(0<=c.1/\c.1<=60)/\(c.2.2.1=1∨c.2.2.1= -1)
  n:cN D=(Ady (L.take i):Int)
  v:cV D=(vL (L.take i):Int)
  s:cS D=s2L (L.take i)
  o:od D↔oB (L.take i)
structure BA1 (L:List AW8) (i:Nat) (C:List AX4):Prop where
  last:i=0/\C=[]∨ ∃ l c b,C=l ++ [c]/\0 < i/\L[i - 1]? =some b/\c.1=b.1
  len:C.length<=i
  ok:∀ c∈C,(0<=c.2.1/\c.2.1<=2 * (i:Int))/\(0<=c.1/\c.1<=60)/\(c.2.2.1=1∨c.2.2.1= -1)
  n:cN C=(Ady (L.take i):Int)
  v:cV C=(vL (L.take i):Int)
  s:cS C=s2L (L.take i)
  o:od C↔oB (L.take i)
theorem BA2 {fuel K n E:Nat} {T:List (List Int)} {L:List AW8} (B:DL K L n E) (hK:K<=30) (A7:1<=n) (hn:n<=8) (hf:100 < fuel):Ok (AXi fuel 2 T L) fun r=>r.2=true/\BA1 L L.length r.1:=by
 have hl:=Au6 B.sz;have hsum:=B.sum
 have A8:1<=L.length:=by
   rcases Nat.lt_or_ge 0 L.length with h | h
   · exact h
   · have:L=[]:=List.length_eq_zero_iff.1 AGh
     rw [this] at hsum
     have:Ady []=0:=rfl
     omega
 unfold AXi;rw [if_neg AGj,if_neg AGh];simp only [Option.bind_some];refine AGt (Q:=fun ex=> ∃ C,ex= .inr C/\BA1 L L.length C) (AUa (fun i s=> ∃ C,s=(C,(Ady (L.take i):Int),(i:Int))/\i<=L.length/\BA1 L i C) L.length ⟨[],rfl,Nat.zero_le _,⟨.inl ⟨rfl,rfl⟩,Nat.le_refl _,fun c hc=>(nomatch hc),rfl,rfl,rfl,⟨fun ⟨c,hc,_⟩=>(nomatch hc),fun ⟨c,hc,_⟩=>(nomatch hc)⟩⟩⟩ AGh fun i s hi hI=>?_) fun ex hex=>?_
 ·obtain ⟨C,rfl,hin,H⟩:=hI;unfold Ab5;dsimp only;refine ATr (fun h=>?_) fun h=>AGp ⟨C,rfl,by rwa [show L.length=i by omega]⟩;have hi:i < L.length:=by omega
  obtain ⟨b,hbi⟩:∃ b,L[i]? =some b:=⟨L[i],List.getElem?_eq_getElem hi⟩;have htk:L.take (i + 1)=L.take i ++ [b]:=by rw [List.take_add_one,hbi];rfl
  have hbm:b∈L:=List.mem_of_getElem? hbi;have hsz:=B.sz b hbm;obtain ⟨⟨Ax,Aq⟩,hpw⟩:=(B.rg i hi).1 b hbi;have hasc:=(B.rg i hi).2;rw [if_pos rfl] at Aq
  have hbs:Ady (L.take i) + b.2.1.toNat<=8:=by
    have:=Atp L (i + 1)
    rw [htk,Amn] at this
    omega
  have A9:i<=8:=by omega
  rw [AY5 hbi];obtain ⟨e,s,x,y,z⟩:=b;dsimp only at hsz Ax Aq hpw hbs ⊢;obtain ⟨e,rfl⟩:∃ e':Nat,e=e':=⟨e.toNat,AGh⟩;have hprev:∀ c,0 < i->L[i - 1]? =some c->c.1<=(e:Int):=fun c h0 hc=>hasc h0 _ _ hbi hc;have Ao:∀ w:Int,Eqm 8 (w64 w) w:=fun w=>(Ajl (K:=3) AGj w)
  have chk:Ok ((if (e:Int) < 0 then (some (Sum.inl <| ([],false))) else (if 60 < (e:Int) then (some (Sum.inl <| ([],false))) else ((AXc fuel e s x y z).bind fun w=>(if (!w)=true then (some (Sum.inl <| ([],false))) else (if (0:Int) < (i:Int) then ((gI L (w64 ((i:Int) - 1))).bind fun c=>(if (e:Int) < c.1 then (some (Sum.inl <| ([],false))) else (some (Sum.inr <| ())))) else (some (Sum.inr <| ()))))))):Option ((((List AX4) × Bool)) ⊕ (Unit))) fun r=>r= .inr ():=by
    rw [if_neg AGh,if_neg AGh]
    refine AGt BB4 fun w hw=>?_
    have hwt:w=true:=hw.2 (by
      by_cases h1:s=1
      · rw [if_pos h1] at hpw ⊢
        exact ⟨Ayq.1 hpw.2.1,hpw.2.2⟩
      · rw [if_neg h1] at hpw ⊢
        exact ⟨hsz.resolve_left h1,hpw.2⟩)
    rw [hwt]
    refine ATr (fun h=>absurd h AGj) fun _=>ATr (fun h0=>?_) fun _=>AGp rfl
    obtain ⟨c,hc⟩:∃ c,L[i - 1]? =some c:=⟨L[i - 1],List.getElem?_eq_getElem _⟩
    have:=hprev c AGh hc
    rw [show w64 ((i:Int) - 1)=((i - 1:Nat):Int) by rw [wk AGh];omega,AY5 hc,if_neg AGh]
    exact AGp rfl
  rw [ok_eq chk];simp only [Option.bind_some];rw [AWk (x:=(Ady (L.take i):Int) + s) AGh AGh,if_neg AGh]
  have hnew:CRm L i e (C ++ [((e:Int),0,1,false,0)]):=by
    refine ⟨⟨C,_,rfl,rfl⟩,by simp;exact H.len,fun c hc=>?_,by rw [Ayr,H.n];simp,by rw [Ays,H.v];simp,by rw [Ayt,H.s];simp,by rw [Ayu,<- H.o];simp⟩
    rcases List.mem_append.1 hc with h | h
    · exact H.ok c h
    · rw [List.mem_singleton.1 h];dsimp only;exact ⟨AGh,AGh,.inl rfl⟩
  have hCl:=H.len
  have key:Ok (if (i:Int)=0 then (if C.length<=100000000 then (some ( (C ++ [((e:Int),0,1,false,0)]))) else none) else ((gI L (w64 ((i:Int) - 1))).bind fun c=>(if c.1 < (e:Int) then (if C.length<=100000000 then (some ( (C ++ [((e:Int),0,1,false,0)]))) else none) else (some ( C)))):Option (List AX4)) (CRm L i e):=by
    refine ATr (fun h0=>AU3 AGh (AGp hnew)) fun h0=>?_
    obtain ⟨c,hc⟩:∃ c,L[i - 1]? =some c:=⟨L[i - 1],List.getElem?_eq_getElem _⟩
    have h2:=hprev c AGh hc
    rw [show w64 ((i:Int) - 1)=((i - 1:Nat):Int) by rw [wk AGh];omega,AY5 hc]
    refine ATr (fun h1=>AU3 AGh (AGp hnew)) fun h1=>AGp ⟨?_,AGh,H.ok,H.n,H.v,H.s,H.o⟩
    rcases H.last with ⟨h,_⟩ | ⟨l,d,b',h3,_,h4,h5⟩
    · omega
    · rw [hc] at h4
      cases h4
      exact ⟨l,d,h3,AGh⟩
  refine AGt key fun D hD=>?_;obtain ⟨⟨l,c,rfl,Ak⟩,h2,h3,h4,h5,h6,h7⟩:=hD;have hc:=h3 c ATw;have hll:l.length<=i:=by simp at h2;omega
  have ew:w64 (((l ++ [c]).length:Int) - 1)=(l.length:Int):=by rw [List.length_append,List.length_singleton,wk AGh];omega
  rw [ew];have g1:∀ c:AX4,(l ++ [c])[l.length]? =some c:=fun c=>by simp
  have g2:∀ c d:AX4,sI (l ++ [c]) (l.length:Int) d=l ++ [d]:=fun c d=>by rw [AU0];simp
  rw [AY5 (g1 c)];refine AGt (Q:=fun r=> ∃ c':AX4,r=l ++ [c']/\c'.1=c.1/\c'.2.1=c.2.1 + s/\c'.2.2.1=c.2.2.1 * s8 (dB ((e:Int),s,x,y,z))/\(c'.2.2.2.1=true↔c.2.2.2.1=true∨s=1)) ?_ fun r hr=>?_
  ·refine AGt (Q:=fun r:Int × List AX4=> ∃ c':AX4,r.2=l ++ [c']/\r.1 % 8=dB ((e:Int),s,x,y,z) % 8/\c'.1=c.1/\c'.2.1=c.2.1/\c'.2.2.1=c.2.2.1/\(c'.2.2.2.1=true↔c.2.2.2.1=true∨s=1)) (ATr (fun h1=>?_) fun h1=>AGp ⟨c,rfl,?_,rfl,rfl,rfl,?_⟩) fun r hr=>?_
   ·rw [AY5 (g1 c),g2,AY5 (g1 _),g2];exact AGp ⟨_,rfl,by unfold dB;rw [if_neg (show ¬ s=2 by omega)],rfl,rfl,rfl,by dsimp only;simp [h1]⟩
   ·dsimp only;unfold dB;rw [if_pos (show s=2 by omega)];exact (Ao _).trans ((Ao _).sub (Ao _))
   ·simp [h1]
   ·obtain ⟨d,e'⟩:=r;obtain ⟨c',q1,q2,q3,q4,q5,q6⟩:=hr;dsimp only at q1 q2 ⊢;subst q1;rw [BCk,q2];refine AGt (Q:=fun r=> ∃ c'':AX4,r=l ++ [c'']/\c''.1=c.1/\c''.2.1=c.2.1/\c''.2.2.1=c.2.2.1 * s8 (dB ((e:Int),s,x,y,z))/\(c''.2.2.2.1=true↔c.2.2.2.1=true∨s=1)) ?_ fun r hr=>?_
    ·have hneg:w64 (0 - c'.2.2.1)=c'.2.2.1 * -1:=by
       rw [q5];rcases hc.2.2 with h | h <;> rw [h] <;> decide
     refine ATr (fun h8=>?_) fun h8=>ATr (fun h9=>?_) fun h9=>?_
     ·rw [AY5 (g1 c'),g2,hneg];exact AGp ⟨_,rfl,q3,q4,by dsimp only;unfold s8;rw [if_pos (.inl h8),q5],q6⟩
     ·rw [AY5 (g1 c'),g2,hneg];exact AGp ⟨_,rfl,q3,q4,by dsimp only;unfold s8;rw [if_pos (.inr h9),q5],q6⟩
     ·exact AGp ⟨c',rfl,q3,q4,by unfold s8;rw [if_neg AGh,q5,Int.mul_one],q6⟩
    ·obtain ⟨c'',rfl,r1,r2,r3,r4⟩:=hr;rw [AY5 (g1 c''),g2,r2,AWk (x:=c.2.1 + s) AGh AGh];exact AGp ⟨_,rfl,r1,rfl,r3,r4⟩
  ·obtain ⟨c',rfl,q1,q2,q3,q4⟩:=hr;refine AGp ⟨hi,_,?_,hi,⟨.inr ⟨l,c',_,rfl,Nat.succ_pos i,by rw [Nat.add_sub_cancel];exact hbi,by rw [q1,Ak]⟩,by simp;omega,fun d hd=>?_,?_,?_,?_,?_⟩⟩
   ·rw [htk,Amn,AWt AGh];dsimp only;congr 2;omega
   ·rcases List.mem_append.1 hd with h | h
    ·have:=h3 d (by simp [h]);exact ⟨AGh,this.2⟩
    ·rw [List.mem_singleton.1 h,q1,q2,q3];exact ⟨AGh,hc.2.1,(BAy hc.2.2 (BB6 _)).1⟩
   ·rw [htk,Amn,Ayr,q2];rw [Ayr] at h4;dsimp only;omega
   ·rw [htk,BAv,Ays,q1,q2,Int.add_mul,Ak];rw [Ays,Ak] at h5;dsimp only;rw [Int.toNat_natCast,Int.natCast_add,Int.natCast_mul,show ((s.toNat:Nat):Int)=s by omega];omega
   ·rw [htk,A8d,Ayt,q3,<- h6,Ayt];grind
   ·rw [htk,BA0,<- h7,Ayu,Ayu,q1,q4,Ak];dsimp only;constructor
    ·rintro (h | ⟨h,h' | h'⟩)
     ·exact .inl (.inl h)
     ·exact .inl (.inr ⟨h,h'⟩)
     ·exact .inr ⟨h',h⟩
    ·rintro ((h | ⟨h,h'⟩) | ⟨h,h'⟩)
     ·exact .inl h
     ·exact .inr ⟨h,.inl h'⟩
     ·exact .inr ⟨h',.inr h⟩
 ·obtain ⟨C,rfl,hC⟩:=hex;exact AGp ⟨rfl,hC⟩
theorem A8e {fuel K n E:Nat} {T:List (List Int)} {L:List AW8} (B:DL K L n E) (hK:K<=30) (hn1:1<=n) (hn:n<=8) (hf:100 < fuel):Ok (Adu fuel 2 T L) fun r=>r=true↔ ∀ b∈L,¬ (b.2.1=1/\b.1=0):=by
  have hl:=Au6 B.sz;have hsum:=B.sum;unfold Adu;refine AGt (BA2 B hK hn1 hn hf) fun r hr=>?_;obtain ⟨C,ok⟩:=r;obtain ⟨rfl,H⟩:=hr;dsimp only at H ⊢;rw [if_neg AGj];have hlen:=H.len;have ho:=H.o;rw [List.take_length] at ho
  refine AGt (BAp (n:=C.length) (fun i=> ∀ c,C[i]? =some c->¬ (c.1=0/\c.2.2.2.1=true)) false AGh (fun i hi=>?_) ?_) fun ex hex=>?_
  · obtain ⟨c,hc⟩:∃ c,C[i]? =some c:=⟨C[i],List.getElem?_eq_getElem hi⟩;unfold Aes;rw [if_pos AGh,AY5 hc,AWt AGh]
    refine ATr (fun h=>ATr (fun h2=>AGp (.inr ⟨rfl,fun h3=>h3 c hc ⟨h,h2⟩⟩)) fun h2=>AGp (.inl ⟨rfl,fun d hd=>?_⟩)) fun h=>AGp (.inl ⟨rfl,fun d hd=>?_⟩)
    · rw [hc] at hd;cases hd;exact fun h3=>h2 h3.2
    · rw [hc] at hd;cases hd;exact fun h3=>h h3.1
  · unfold Aes;rw [if_neg AGh]
  · rcases hex with ⟨rfl,h⟩ | ⟨rfl,h⟩
    · refine AGp ⟨fun _ b hb hbb=>?_,fun _=>rfl⟩;obtain ⟨c,hc,hcc⟩:=ho.2 ⟨b,hb,hbb⟩;obtain ⟨i,hi⟩:=List.getElem?_of_mem hc;exact h i (List.getElem?_eq_some_iff.1 hi).1 c hi hcc
    · refine AGp ⟨fun h2=>(nomatch h2),fun h2=>absurd (fun i hi c hc hcc=>?_) h⟩;obtain ⟨b,hb,hbb⟩:=ho.1 ⟨c,List.mem_of_getElem? hc,hcc⟩;exact h2 b hb hbb
theorem BA3 {fuel:Nat} {M:List (List Int)} (R:Ar0 M) (hf:100 < fuel):Ok (iter (fun s=>AXf fuel M s.1 s.2) fuel (true,0)) fun r=>r=true↔ ∀ i,i < M.length->(2:Int) ∣ ent M i i:=by
 have hn:=R.1.2;have hM:=Aoo R;refine AUa (fun i s=> ∃ b:Bool,s=(b,(i:Int))/\i<=M.length/\(b=true↔ ∀ j,j < i->(2:Int) ∣ ent M j j)) M.length ⟨true,rfl,Nat.zero_le _,⟨fun _ j hj=>absurd hj (Nat.not_lt_zero j),fun _=>rfl⟩⟩ AGh fun i s hi hI=>?_;obtain ⟨b,rfl,hin,hb⟩:=hI;unfold AXf;dsimp only;refine ATr (fun h=>?_) fun h=>AGp (by rwa [show M.length=i by omega]);have hi:i < M.length:=by omega
 refine ATr (fun hbt=>?_) fun hbt=>AGp ⟨hi,false,by rw [AWt AGh],hi,⟨fun h=>(nomatch h),fun h=>absurd (hb.2 fun j hj=>h j AGh) hbt⟩⟩
 have hgm:gI M (i:Int)=some (AVk M.length (ent M i)):=by
   conv=>lhs;rw [hM]
   unfold gI
   rw [if_pos AGh,Int.toNat_natCast]
   exact AT7 hi
 rw [hgm];simp only [Option.bind_some];rw [AY5 (ATv hi),AWt AGh];refine AGp ⟨hi,_,rfl,hi,?_⟩;rw [decide_eq_true_eq];constructor
 ·intro h2 j hj;rcases Nat.lt_or_ge j i with h3 | h3
  ·exact hb.1 hbt j h3
  ·obtain rfl:j=i:=by omega
   exact Int.dvd_of_tmod_eq_zero h2
 ·intro h2;exact Int.tmod_eq_zero_of_dvd (h2 i (Nat.lt_succ_self i))
theorem Ap2 {g kd:Int} {Z Y:List Int} (hg:0<=g/\g < 256):AYi (AWv + 1) g kd Z Y=some true:=by
 have hf:AWv < AWv + 1:=Nat.lt_succ_self _;have Aa:100 < AWv + 1:=Nat.lt_of_le_of_lt AGj hf;have Ab:2147483648 < AWv + 1:=Nat.lt_of_le_of_lt AGj hf;apply ok_eq;unfold AYi;have aw:Ok (AXj (AWv + 1)) (· =true):=⟨true,Au8,rfl⟩;refine AGt (BAj hg AGj hf) fun M hM=>?_;obtain ⟨n,A,rfl,h1,h2,RF,-⟩:=hM;have R:=A73 h1 AGh RF;generalize tab n n A=M at R;obtain ⟨K,E,T,G,L,e1,e2,e3,e4,e5,S,B⟩:=BAx R Ab;have hs:∀ i j,i < M.length->j < M.length->ent M i j=ent M j i:=fun i j hi hj=>R.2.2.sym i j hi hj;have hev:=A8b S B AGh hs;rw [e1];simp only [Option.bind_some];refine AGt (BA3 R Aa) fun d hd=>Axb (by first | exact trivial | rfl) (AGt (A8e B e4 R.1.1 R.1.2 Aa) fun v hv=>Axb ?_ (AGt aw fun x hx=>AGp hx));rw [beq_iff_eq,Bool.eq_iff_iff,hv,hd,hev]
end Go.Proofs.YthbndcbclhkepaaGreatDoor
